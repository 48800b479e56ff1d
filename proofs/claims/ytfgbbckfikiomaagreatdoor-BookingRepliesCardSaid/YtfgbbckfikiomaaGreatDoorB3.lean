/- Sorted numbers: package slices. Condition: none. -/
import Derived.Test.YtfgbbckfikiomaaGreatDoorB2
import Derived.Lib.Overlaps
import Derived.Shelf.SlIterI.Collect
import Derived.Shelf.SlIterI.Sorted
import Derived.Shelf.SortM.Plain
import Derived.Shelf.SortM.SortNone
import Derived.Ground.GgzProg
import Derived.Ground.SlgmProg
import Derived.Test.YtfgbbckfikiomaaGreatDoorProg
namespace Go.Proofs.YtfgbbckfikiomaaGreatDoor
set_option linter.unusedVariables false
open Go Go.VC
variable {R : Cx} {Hs Rest : List HP} {w : World}
def Rise (l : List Int) : Prop := ∀ i j (hj : j < l.length), (hij : i < j) → l[i] < l[j]
def insS (n : Int) : List Int → List Int
  | [] => [n]
  | x :: l => if x < n then x :: insS n l else n :: x :: l
end Go.Proofs.YtfgbbckfikiomaaGreatDoor



/- SL, part 17: maps whose keys are ints; memory that is only read, several pieces of it lent at once. No condition. -/
namespace Go.VC
set_option linter.unusedVariables false
variable {P : Program} {R R' R'' : Cx} {Hs Rest : List HP} {w : World} {s : Sl} {T : TypeId}
instance : KeyK Int where
  enc := Value.int .i64
  desc := .int .i64
  same a b := by
    show (if IntKind.i64 = IntKind.i64 then some (a == b) else none) = some (a == b)
    rw [if_pos rfl]
  bits a := by
    have : ∀ n, Instr.sameBits n (.int .i64 a) (.int .i64 a) = (IntKind.i64 == IntKind.i64 && a == a) := fun n => by cases n <;> rfl
    rw [this]; simp
  eq a b h := beq_iff_eq.1 h
  check P em K a w h := by
    show (Instr.checkKey em (9999 + 1) K (.int .i64 a)).run P w = _
    unfold Instr.checkKey
    simp [run_underlying h]
theorem Reads.out {xs : List Value} (h : Sat R (Reads s xs :: Hs) w) : ∃ R', R.Ext R' ∧ SlR R'.m s xs ∧ Sat R' Hs w ∧ ∀ Hs' w', Sat R' Hs' w' → Sat R (Reads s xs :: Hs') w' := by
  obtain ⟨x, hd, hs, hw, hx⟩ := Reads.lend h
  exact ⟨R.add x, Cx.Ext.add, hs, hw, fun Hs' w' h => Reads.back hd hx h⟩
end Go.VC
/- A flight in memory. Condition: none. -/
namespace Go.Proofs.YtfgbbckfikiomaaGreatDoor
set_option linter.unusedVariables false
open Go Go.VC
variable {R : Cx} {Hs Rest : List HP} {w : World}
structure Hold where
  owner : Int
  cls : Int
  many : Int
  seats : List Int
structure PF where
  num : Int
  rows : Int
  grps : List Int
  lims : List Int
  sold : List Int
  hs : List (Int × Hold)
  own : List (Int × Int)
abbrev hCells (h : Hold) (s : Sl) : Obj := .cells [.int .i64 h.owner, .int .i64 h.cls, .int .i64 h.many, .slice s.a s.len s.cap].toArray 176 (0, 0)
def HoldAt (b : Nat) (h : Hold) : HP := exs fun s : Sl => Star [pts b (hCells h s), Own s 3 (intsI h.seats)]
abbrev HE := Int × Nat × Hold
def HoldsAt (E : List HE) : HP := Star (E.map fun e => HoldAt e.2.1 e.2.2)
abbrev hPtrs (E : List HE) : List (Int × Value) := E.map fun e => (e.1, .pointer (some ⟨e.2.1, 0, none⟩))
abbrev hEr (E : List HE) : List (Int × Hold) := E.map fun e => (e.1, e.2.2)
abbrev oVals (l : List (Int × Int)) : List (Int × Value) := l.map fun e => (e.1, .int .i64 e.2)
abbrev fCells (f : PF) (sg sl ss : Sl) (hm om : Nat) : Obj :=
  .cells [.int .i64 f.num, .int .i64 f.rows, .slice sg.a sg.len sg.cap, .slice sl.a sl.len sl.cap, .slice ss.a ss.len ss.cap, .map (some hm), .map (some om)].toArray 174 (0, 0)
abbrev FO (p hm om : Nat) (sg sl ss : Sl) (E : List HE) (f : PF) (Hs : List HP) : List HP :=
  pts p (fCells f sg sl ss hm om) :: MapAt hm (hPtrs E) :: MapAt om (oVals f.own) :: HoldsAt E :: Hs
structure FX where
  hm : Nat
  om : Nat
  sg : Sl
  sl : Sl
  ss : Sl
  E : List HE
def FlightAt (p : Nat) (f : PF) : HP := exs fun x : FX =>
  Star [pur (hEr x.E = f.hs), Reads x.sg (intsI f.grps), Reads x.sl (intsI f.lims), Reads x.ss (intsI f.sold), pts p (fCells f x.sg x.sl x.ss x.hm x.om), MapAt x.hm (hPtrs x.E), MapAt x.om (oVals f.own), HoldsAt x.E]
theorem Sat.flight {p : Nat} {f : PF} : Sat R (FlightAt p f :: Hs) w ↔ ∃ hm om sg sl ss E, hEr E = f.hs ∧ Sat R (Reads sg (intsI f.grps) :: Reads sl (intsI f.lims) :: Reads ss (intsI f.sold) :: FO p hm om sg sl ss E f Hs) w := by
  unfold FlightAt
  rw [Sat.exs]
  constructor
  · rintro ⟨⟨hm, om, sg, sl, ss, E⟩, h⟩
    obtain ⟨h1, h2⟩ := Sat.pur.1 (Sat.star.1 h)
    exact ⟨hm, om, sg, sl, ss, E, h1, h2⟩
  · rintro ⟨hm, om, sg, sl, ss, E, h1, h2⟩
    exact ⟨⟨hm, om, sg, sl, ss, E⟩, Sat.star.2 (Sat.pur.2 ⟨h1, h2⟩)⟩
theorem Sat.flightO {p : Nat} {f : PF} (hw : Sat R (FlightAt p f :: Hs) w) : ∃ hm om sg sl ss E R', hEr E = f.hs ∧ R.Ext R' ∧ SlR R'.m sg (intsI f.grps) ∧ SlR R'.m sl (intsI f.lims) ∧ SlR R'.m ss (intsI f.sold) ∧ Sat R' (FO p hm om sg sl ss E f Hs) w ∧
    ∀ Hs' w', Sat R' Hs' w' → Sat R (Reads sg (intsI f.grps) :: Reads sl (intsI f.lims) :: Reads ss (intsI f.sold) :: Hs') w' := by
  obtain ⟨hm, om, sg, sl, ss, E, hE, hw⟩ := Sat.flight.1 hw
  obtain ⟨R1, e1, g1, hw, b1⟩ := Reads.out hw
  obtain ⟨R2, e2, g2, hw, b2⟩ := Reads.out hw
  obtain ⟨R3, e3, g3, hw, b3⟩ := Reads.out hw
  exact ⟨hm, om, sg, sl, ss, E, R3, hE, e1.trans (e2.trans e3), e3.slR (e2.slR g1), e3.slR g2, g3, hw, fun Hs' w' h => b1 _ _ (b2 _ _ (b3 _ _ h))⟩
theorem Sat.flightC {p hm om : Nat} {sg sl ss : Sl} {E : List HE} {f : PF} (hE : hEr E = f.hs) (hw : Sat R (Reads sg (intsI f.grps) :: Reads sl (intsI f.lims) :: Reads ss (intsI f.sold) :: FO p hm om sg sl ss E f Hs) w) : Sat R (FlightAt p f :: Hs) w :=
  Sat.flight.2 ⟨hm, om, sg, sl, ss, E, hE, hw⟩
theorem Sat.hold {b : Nat} {h : Hold} : Sat R (HoldAt b h :: Hs) w ↔ ∃ s : Sl, Sat R (pts b (hCells h s) :: Own s 3 (intsI h.seats) :: Hs) w := by
  unfold HoldAt
  rw [Sat.exs]
  exact ⟨fun ⟨s, h⟩ => ⟨s, Sat.star.1 h⟩, fun ⟨s, h⟩ => ⟨s, Sat.star.2 h⟩⟩
theorem Sat.holds {a b : List HE} {e : HE} : Sat R (HoldsAt (a ++ e :: b) :: Hs) w ↔ Sat R (HoldAt e.2.1 e.2.2 :: HoldsAt (a ++ b) :: Hs) w := by
  have p : ((a ++ e :: b).map fun e : HE => HoldAt e.2.1 e.2.2).Perm (HoldAt e.2.1 e.2.2 :: (a ++ b).map fun e : HE => HoldAt e.2.1 e.2.2) := by
    rw [List.map_append, List.map_cons, List.map_append]; exact List.perm_middle
  unfold HoldsAt
  constructor
  · intro h
    have h1 := (Sat.star.1 h).perm (p.append_right Hs)
    exact h1.cons fun _ h => Sat.star.2 h
  · intro h
    have h1 : Sat R ((HoldAt e.2.1 e.2.2 :: (a ++ b).map fun e : HE => HoldAt e.2.1 e.2.2) ++ Hs) w := h.cons fun _ h => Sat.star.1 h
    exact Sat.star.2 (h1.perm (p.symm.append_right Hs))
end Go.Proofs.YtfgbbckfikiomaaGreatDoor
/- A flight: seats told, names, reading. Condition: bounds on lengths. -/
namespace Go.Proofs.YtfgbbckfikiomaaGreatDoor
set_option linter.unusedVariables false
open Go Go.VC
variable {R : Cx} {Hs Rest : List HP} {w : World}
def Hold.put (h : Hold) (n : Int) : Hold := { h with seats := insS n h.seats }
theorem elStr : El Tryz.prog 29 29 9 16 := ⟨Tryz.underlying29, ⟨_, Tryz.underlying29⟩, by kernel_rfl⟩
theorem oneAll_str (l : List ByteArray) : oneAll (l.map Value.string) = true := by unfold oneAll; simp [Value.oneCell']
end Go.Proofs.YtfgbbckfikiomaaGreatDoor
/- A flight: a new one. Condition: bounds on lengths. -/
namespace Go.Proofs.YtfgbbckfikiomaaGreatDoor
set_option linter.unusedVariables false
open Go Go.VC
variable {R : Cx} {Hs Rest : List HP} {w : World}
theorem map_rule {K : Nat → World → Prop} (hw : Sat R Hs w) (k : ∀ m w', Sat R (MapAt (α := Int) m [] :: Hs) w' → K m w') : New (.map #[] 0) K w :=
  new_rule hw fun m w hw => k m w (MapAt.new rfl hw)
theorem zer_rule {n : Nat} {K : Sl → World → Prop} (hn : n ≤ 1000) (hw : Sat R Hs w) (k : ∀ s w', Sat R (Own s 3 (intsI (List.replicate n 0)) :: Hs) w' → K s w') :
    ∃ w', ∃ t : Sl, (Instr.makeSlice 28 (.int .i64 (n : Int)) (.int .i64 (n : Int))).run Tryz.prog w = .ok (.slice t.a t.len t.cap) w' ∧ K t w' :=
  make_rule (bytes := 8) (z := .int .i64 0) Tryz.underlying28 (by kernel_rfl) Tryz.zeroValue3 rfl (by omega) (by omega) hw fun s w hw => k s w (by
    rw [show intsI (List.replicate n 0) = List.replicate n (.int .i64 0) by simp [intsI]]; exact hw)
def emptyF (num rows : Int) (grps lims : List Int) : PF := ⟨num, rows, grps, lims, List.replicate lims.length 0, [], []⟩
theorem empty_spec {num rows : Int} {sg sl : Sl} {grps lims : List Int} (hl : lims.length ≤ 1000) (hw : Sat R (Reads sg (intsI grps) :: Reads sl (intsI lims) :: Hs) w) :
    Gets Tryz.prog 159 #[.int .i64 num, .agg #[.int .i64 rows, .slice sg.a sg.len sg.cap], .slice sl.a sl.len sl.cap] w fun v w' => ∃ p, v = .pointer (some ⟨p, 0, none⟩) ∧ Sat R (FlightAt p (emptyF num rows grps lims) :: Hs) w' := by
  have hlen : sl.len = lims.length := by
    obtain ⟨_, _, h, _⟩ := Reads.out hw.swap
    have := h.len
    rw [List.length_map] at this; exact this
  apply call159
  refine new_rule hw fun b4 w hw => ?_
  have hw : Sat R (pts b4 (layC rows sg) :: Reads sg (intsI grps) :: Reads sl (intsI lims) :: Hs) w := hw
  refine drw_rule hw fun w hw => ?_
  rw [hlen]
  have fin : ∀ {hm om : Nat} {ss : Sl} {w : World} (_ : Sat R (MapAt (α := Int) om [] :: MapAt (α := Int) hm [] :: Own ss 3 (intsI (List.replicate lims.length 0)) :: pts b4 (layC rows sg) :: Reads sg (intsI grps) :: Reads sl (intsI lims) :: Hs) w),
      New (.cells #[.int .i64 num, .int .i64 rows, .slice sg.a sg.len sg.cap, .slice sl.a lims.length sl.cap, .slice ss.a ss.len ss.cap, .map (some hm), .map (some om)] 174 (0, 0))
        (fun p w => Sat R (pts b4 (layC rows sg) :: Reads sg (intsI grps) :: Reads sl (intsI lims) :: Hs) w ∧ ∃ p', Value.pointer (some ⟨p, 0, none⟩) = .pointer (some ⟨p', 0, none⟩) ∧ Sat R (FlightAt p' (emptyF num rows grps lims) :: Hs) w) w := fun {hm om ss w} hw => by
    refine new_rule hw fun p w hw => ⟨hw.drop.drop.drop.drop, p, rfl, ?_⟩
    refine Sat.flight.2 ⟨hm, om, sg, sl, ss, [], rfl, ?_⟩
    have ec : (Obj.cells #[.int .i64 num, .int .i64 rows, .slice sg.a sg.len sg.cap, .slice sl.a lims.length sl.cap, .slice ss.a ss.len ss.cap, .map (some hm), .map (some om)] 174 (0, 0)) = fCells (emptyF num rows grps lims) sg sl ss hm om := by rw [← hlen]; rfl
    rw [ec] at hw
    have hw := (hw.take (pts b4 (layC rows sg))).drop
    have hw := hw.take (Own ss 3 (intsI (List.replicate lims.length 0)))
    have hw : Sat R (Reads ss (intsI (List.replicate lims.length 0)) :: pts p (fCells (emptyF num rows grps lims) sg sl ss hm om) :: MapAt (α := Int) om [] :: MapAt (α := Int) hm [] :: Reads sg (intsI grps) :: Reads sl (intsI lims) :: Hs) w := Own.reads hw
    have h2 : Sat R (HoldsAt [] :: Reads ss (intsI (List.replicate lims.length 0)) :: pts p (fCells (emptyF num rows grps lims) sg sl ss hm om) :: MapAt (α := Int) om [] :: MapAt (α := Int) hm [] :: Reads sg (intsI grps) :: Reads sl (intsI lims) :: Hs) w := Sat.star.2 hw
    have h3 := (((((((h2.take (HoldsAt [])).take (MapAt (α := Int) om [])).take (MapAt (α := Int) hm [])).take (pts p (fCells (emptyF num rows grps lims) sg sl ss hm om))).take (Reads ss (intsI (List.replicate lims.length 0)))).take (Reads sl (intsI lims))).take (Reads sg (intsI grps)))
    exact h3
  refine ⟨rows, sg, At.own selfS (by exact ⟨rfl, rfl, trivial⟩), ?_, ?_, ?_⟩
  · refine zer_rule hl hw fun ss w hw => ⟨hw.drop, ?_, ?_⟩
    · refine map_rule hw fun hm w hw => ⟨hw.drop.drop, map_rule hw fun om w hw => ⟨hw.drop.drop.drop, fin hw⟩⟩
    · refine map_rule hw fun om w hw => ⟨hw.drop.drop, map_rule hw fun hm w hw => ⟨hw.drop.drop.drop, fin hw.swap⟩⟩
  · refine map_rule hw fun hm w hw => ⟨hw.drop, ?_, ?_⟩
    · refine zer_rule hl hw fun ss w hw => ⟨hw.drop.drop, map_rule hw fun om w hw => ⟨hw.drop.drop.drop, fin ((hw.take (MapAt (α := Int) hm [])).take (MapAt (α := Int) om []))⟩⟩
    · refine map_rule hw fun om w hw => ⟨hw.drop.drop, zer_rule hl hw fun ss w hw => ⟨hw.drop.drop.drop, fin ((hw.take (MapAt (α := Int) hm [])).take (MapAt (α := Int) om []))⟩⟩
  · refine map_rule hw fun om w hw => ⟨hw.drop, ?_, ?_⟩
    · refine zer_rule hl hw fun ss w hw => ⟨hw.drop.drop, map_rule hw fun hm w hw => ⟨hw.drop.drop.drop, fin ((hw.take (MapAt (α := Int) hm [])).take (MapAt (α := Int) om []))⟩⟩
    · refine map_rule hw fun hm w hw => ⟨hw.drop.drop, zer_rule hl hw fun ss w hw => ⟨hw.drop.drop.drop, fin ((hw.take (MapAt (α := Int) hm [])).take (MapAt (α := Int) om []))⟩⟩
end Go.Proofs.YtfgbbckfikiomaaGreatDoor
/- A flight: New, Take. Condition: bounds on lengths. -/
namespace Go.Proofs.YtfgbbckfikiomaaGreatDoor
set_option linter.unusedVariables false
open Go Go.VC
variable {R : Cx} {Hs Rest : List HP} {w : World}
def newOk (num rows : Int) (grps : List Int) (parts : List Nat) : Prop := 1 ≤ num ∧ num ≤ 9999 ∧ layOk rows grps = true ∧ (limitsT (layN rows grps) parts).2 = 0
theorem limits_len {s : Int} {parts : List Nat} : (limitsT s parts).1.length ≤ 8 := by
  unfold limitsT
  split
  · simp
  · simp only [List.length_cons, limGo_len, List.length_tail]; omega
theorem fnew_spec' {num rows : Int} {sg sp : Sl} {grps : List Int} {parts : List Nat} (hg : RoI R sg grps) (hp : SlR R.m sp (flts parts)) (hw : Sat R Hs w) :
    Gets Tryz.prog 109 #[.int .i64 num, .agg #[.int .i64 rows, .slice sg.a sg.len sg.cap], .slice sp.a sp.len sp.cap] w fun v w' =>
      (¬ newOk num rows grps parts ∧ v = .tuple #[.pointer none, .int .i64 1] ∧ Sat R Hs w') ∨
      (newOk num rows grps parts ∧ ∃ p, v = .tuple #[.pointer (some ⟨p, 0, none⟩), .int .i64 0] ∧ Sat R (FlightAt p (emptyF num rows grps (limitsT (layN rows grps) parts).1) :: Hs) w') := by
  apply call109
  refine new_rule hw fun b4 w hw => ?_
  have hw : Sat R (pts b4 (layC rows sg) :: Hs) w := hw
  refine ⟨rows, sg, At.own (eqS hw) (by exact ⟨rfl, rfl, trivial⟩), ?_⟩
  refine (count_spec hg hw).use ?_
  rintro _ w ⟨rfl, hw⟩
  refine ⟨_, rfl, ?_⟩
  refine (limits_spec hp hw).use ?_
  rintro _ w ⟨t, rfl, hw⟩
  have bad : ¬ newOk num rows grps parts → ∀ {w}, Sat R (Own t 3 (intsI (limitsT (layN rows grps) parts).1) :: pts b4 (layC rows sg) :: Hs) w → (¬ newOk num rows grps parts ∧ Value.tuple #[.pointer none, .int .i64 1] = .tuple #[.pointer none, .int .i64 1] ∧ Sat R Hs w) ∨
      (newOk num rows grps parts ∧ ∃ p, Value.tuple #[.pointer none, .int .i64 1] = .tuple #[.pointer (some ⟨p, 0, none⟩), .int .i64 0] ∧ Sat R (FlightAt p (emptyF num rows grps (limitsT (layN rows grps) parts).1) :: Hs) w) := fun h w hw => .inl ⟨h, rfl, hw.drop.drop⟩
  refine ⟨_, _, rfl, Br.d (fun h => bad (fun h2 => by have := h2.1; omega) hw) (fun h1 => Br.d (fun h => bad (fun h2 => by have := h2.2.1; omega) hw) (fun h2 => ?_))⟩
  refine ⟨rows, sg, At.own (eqS hw) (by exact ⟨rfl, rfl, trivial⟩), ?_⟩
  refine (right_spec hg hw).use ?_
  rintro _ w ⟨rfl, hw⟩
  refine ⟨_, rfl, Br.nb (fun h => bad (fun h2 => by have h5 := h2.2.2.1; rw [h] at h5; cases h5) hw) (fun h3 => Br.ne (fun h => bad (fun h2 => h h2.2.2.2) hw) (fun h4 => ?_))⟩
  refine ⟨sg, At.own (eqS hw) (by exact ⟨rfl, trivial⟩), ?_⟩
  obtain ⟨l1, _, _⟩ := layOk_iff.1 h3
  refine (cloneI_spec hg (by omega) hw).use ?_
  rintro _ w ⟨tg, rfl, hw⟩
  refine ⟨tg, rfl, ?_⟩
  refine store_rule hw (by kernel_rfl) rfl (by simp [Value.cells]) fun w hw => ?_
  have hw : Sat R (pts b4 (layC rows tg) :: Own tg 3 (intsI grps) :: Own t 3 (intsI (limitsT (layN rows grps) parts).1) :: Hs) w := hw
  refine ⟨rows, tg, At.own (eqS hw) (by exact ⟨rfl, rfl, trivial⟩), ?_⟩
  have hw : Sat R (Reads tg (intsI grps) :: Reads t (intsI (limitsT (layN rows grps) parts).1) :: Hs) w := Sat.cons (fun _ h => Own.reads h) (Own.reads hw.drop)
  refine (empty_spec (by have := limits_len (s := layN rows grps) (parts := parts); omega) hw).use ?_
  rintro _ w ⟨p, rfl, hw⟩
  exact ⟨_, rfl, .inr ⟨⟨by omega, by omega, h3, h4⟩, p, rfl, hw⟩⟩
def takeF (f : PF) (owner cls many : Int) : PF × Int :=
  if owner < 1 ∨ owner > 28629151 then (f, 1) else if (getM owner f.hs).isSome then (f, 7)
  else if (sellT f.lims f.sold cls many).2 = 0 then ({ f with sold := (sellT f.lims f.sold cls many).1, hs := f.hs ++ [(owner, ⟨owner, cls, many, []⟩)] }, 0) else (f, (sellT f.lims f.sold cls many).2)
end Go.Proofs.YtfgbbckfikiomaaGreatDoor
/- A flight: Seat, Labels. Condition: bounds on lengths. -/
namespace Go.Proofs.YtfgbbckfikiomaaGreatDoor
set_option linter.unusedVariables false
open Go Go.VC
variable {R : Cx} {Hs Rest : List HP} {w : World}
abbrev FO1 (p hm om b : Nat) (sg sl ss s : Sl) (E Er : List HE) (f : PF) (h : Hold) (own : List (Int × Int)) (Hs : List HP) : List HP :=
  pts b (hCells h s) :: Own s 3 (intsI h.seats) :: HoldsAt Er :: pts p (fCells f sg sl ss hm om) :: MapAt hm (hPtrs E) :: MapAt om (oVals own) :: Hs
theorem FO.open {p hm om b : Nat} {sg sl ss : Sl} {a c : List HE} {k : Int} {h : Hold} {f : PF} (hw : Sat R (FO p hm om sg sl ss (a ++ (k, b, h) :: c) f Hs) w) : ∃ s, Sat R (FO1 p hm om b sg sl ss s (a ++ (k, b, h) :: c) (a ++ c) f h f.own Hs) w :=
  Sat.hold.1 (Sat.holds.1 (hw.take (HoldsAt (a ++ (k, b, h) :: c))))
theorem FO.close {p hm om b : Nat} {sg sl ss s : Sl} {a c : List HE} {k : Int} {h h' : Hold} {f : PF} {own : List (Int × Int)} (hw : Sat R (FO1 p hm om b sg sl ss s (a ++ (k, b, h) :: c) (a ++ c) f h' own Hs) w) :
    Sat R (FO p hm om sg sl ss (a ++ (k, b, h') :: c) { f with own := own } Hs) w := by
  have hw := (Sat.hold (b := b) (h := h')).2 ⟨s, hw⟩
  have hw := (Sat.holds (e := ((k, b, h') : HE)) (a := a) (b := c)).2 hw
  have e : hPtrs (a ++ (k, b, h') :: c) = hPtrs (a ++ (k, b, h) :: c) := by simp [hPtrs]
  show Sat R (pts p (fCells f sg sl ss hm om) :: MapAt hm (hPtrs (a ++ (k, b, h') :: c)) :: MapAt om (oVals own) :: HoldsAt (a ++ (k, b, h') :: c) :: Hs) w
  rw [e]
  exact ((hw.take (MapAt om (oVals own))).take (MapAt hm (hPtrs (a ++ (k, b, h) :: c)))).take (pts p (fCells f sg sl ss hm om))
end Go.Proofs.YtfgbbckfikiomaaGreatDoor
/- A flight: Labels, Unseat. Condition: bounds on lengths. -/
namespace Go.Proofs.YtfgbbckfikiomaaGreatDoor
set_option linter.unusedVariables false
open Go Go.VC
variable {R : Cx} {Hs Rest : List HP} {w : World}
def Hold.cut (h : Hold) (n : Int) : Hold := { h with seats := h.seats.filter fun x => !(x == n) }
end Go.Proofs.YtfgbbckfikiomaaGreatDoor
/- A flight: Left, Give. Condition: bounds on lengths. -/
namespace Go.Proofs.YtfgbbckfikiomaaGreatDoor
set_option linter.unusedVariables false
open Go Go.VC
variable {R : Cx} {Hs Rest : List HP} {w : World}
def leftsF (f : PF) : List Int := (List.range f.lims.length).map fun (k : Nat) => (leftT f.lims f.sold k).1
def leftsTo (f : PF) (j : Nat) : List Int := (List.range f.lims.length).map fun (k : Nat) => if k < j then (leftT f.lims f.sold k).1 else 0
theorem leftsTo_set (f : PF) {j : Nat} (h : j < f.lims.length) : (leftsTo f j).set j (leftT f.lims f.sold j).1 = leftsTo f (j + 1) := by
  apply List.ext_getElem
  · simp [leftsTo]
  · intro i h1 h2
    simp only [leftsTo, List.length_set, List.length_map, List.length_range] at h1 h2
    rw [List.getElem_set]
    simp only [leftsTo, List.getElem_map, List.getElem_range]
    split
    · rename_i h3; subst h3; rw [if_pos (by omega)]
    · by_cases h4 : i < j
      · rw [if_pos h4, if_pos (by omega)]
      · rw [if_neg h4, if_neg (by omega)]
theorem left_fspec {p : Nat} {f : PF} (hl : f.lims.length ≤ 1000) (hs : f.sold.length ≤ 1000) (hw : Sat R (FlightAt p f :: Hs) w) :
    Gets Tryz.prog 58 #[.pointer (some ⟨p, 0, none⟩)] w fun v w' => ∃ t : Sl, v = .slice t.a t.len t.cap ∧ Sat R (Own t 3 (intsI (leftsF f)) :: FlightAt p f :: Hs) w' := by
  obtain ⟨hm, om, sg, sl, ss, E, R', hE, _, _, rl, rs, hw, back⟩ := Sat.flightO hw
  have hsl : sl.len = f.lims.length := by have := rl.len; rw [List.length_map] at this; exact this
  apply call58
  refine NilP.mk rfl ⟨sl, At.own (eqS hw) (by exact ⟨rfl, trivial⟩), ?_⟩
  rw [hsl]
  refine zer_rule hl hw fun t w hw => ?_
  have e0 : List.replicate f.lims.length (0 : Int) = leftsTo f 0 := by
    apply List.ext_getElem
    · simp [leftsTo]
    · intro i h1 h2; simp [leftsTo]
  rw [e0] at hw
  refine ⟨fun i w => ∃ j : Nat, i = j ∧ j ≤ f.lims.length ∧ Sat R' (Own t 3 (intsI (leftsTo f j)) :: FO p hm om sg sl ss E f Hs) w, fun i _ => f.lims.length - i.toNat, ⟨0, rfl, by omega, hw⟩, ?_⟩
  clear hw
  rintro _ _ w ⟨j, rfl, hj, hw⟩
  have htl := Own.len hw
  simp only [leftsTo, List.length_map, List.length_range] at htl
  refine Br.d (fun h => ?_) (fun h => ?_)
  · have hj2 : j < f.lims.length := by omega
    refine drw_rule hw fun w hw => ?_
    refine NilP.mk rfl ⟨sl, At.own selfS (by exact ⟨rfl, trivial⟩), NilP.mk rfl ⟨ss, At.own selfS (by exact ⟨rfl, trivial⟩), ?_⟩⟩
    refine (left_spec (rl.ro (by rw [List.length_map]; omega)) (rs.ro (by rw [List.length_map]; omega)) hw).use ?_
    rintro _ w ⟨rfl, hw⟩
    refine ⟨_, _, rfl, ?_⟩
    refine Own.store (by kernel_rfl) hw (by simp [leftsTo]; exact hj2) fun w hw => ?_
    rw [leftsTo_set f hj2] at hw
    rw [wrap64 (by omega) (by omega)]
    exact ⟨⟨j + 1, by omega, by omega, hw⟩, by dsimp only; omega⟩
  · obtain rfl : j = f.lims.length := by omega
    have e1 : leftsTo f f.lims.length = leftsF f := by
      unfold leftsTo leftsF
      refine List.map_congr_left fun k hk => ?_
      rw [if_pos (List.mem_range.1 hk)]
    rw [e1] at hw
    refine ⟨t, rfl, ?_⟩
    have hw := back _ _ hw
    exact Sat.cons (fun _ h5 => Sat.flightC hE h5) (hw.take (Own t 3 (intsI (leftsF f))))
end Go.Proofs.YtfgbbckfikiomaaGreatDoor


/- The keys of a map of ints, by the library's calls. Condition: bounds. -/
namespace Go.Proofs.YtfgbbckfikiomaaGreatDoor
set_option linter.unusedVariables false
open Go Go.VC
variable {R : Cx} {Hs Rest : List HP} {w : World}
def sortI (l : List Int) : List Int := l.mergeSort fun x y => decide (x ≤ y)
end Go.Proofs.YtfgbbckfikiomaaGreatDoor

/- Reference 15: putting a seat; whether two answers are the same. Condition: bounds. -/
namespace Go.Proofs.YtfgbbckfikiomaaGreatDoor
set_option linter.unusedVariables false
open Go Go.VC
variable {R : Cx} {Hs Rest : List HP} {w : World}
theorem sameI_spec {s t : Sl} {a b : List Int} (hs : RoI R s a) (ht : RoI R t b) (hw : Sat R Hs w) :
    Gets Tryz.prog 60 #[.slice s.a s.len s.cap, .slice t.a t.len t.cap] w fun v w' => v = .bool (decide (a = b)) ∧ Sat R Hs w' := by
  have hsl := hs.len
  have htl := ht.len
  have hbd := hs.bound
  apply call60
  refine Br.ne (fun h => ⟨?_, hw⟩) (fun h => ?_)
  · rw [decide_eq_false fun e => h (by rw [hsl, htl, e])]
  have hl : a.length = b.length := by omega
  refine ⟨fun i w => ∃ j : Nat, i = j ∧ j ≤ a.length ∧ a.take j = b.take j ∧ Sat R Hs w, fun i _ => a.length - i.toNat, ⟨0, rfl, by omega, by simp, hw⟩, ?_⟩
  clear hw
  rintro _ _ w ⟨j, rfl, hj, hn, hw⟩
  refine Br.d (fun h => ?_) (fun h => ?_)
  · have hj2 : j < a.length := by omega
    have hj3 : j < b.length := by omega
    refine drw_rule hw fun w hw => ?_
    refine hs.idx selfS hj2 (ht.idx selfS hj3 ?_)
    refine Br.ne (fun h => ⟨?_, hw⟩) (fun h => ?_)
    · rw [decide_eq_false]; rintro rfl; exact h rfl
    · rw [wrap64 (by omega) (by omega)]
      refine ⟨⟨j + 1, by omega, by omega, ?_, hw⟩, by dsimp only; omega⟩
      rw [List.take_add_one, List.take_add_one, List.getElem?_eq_getElem hj2, List.getElem?_eq_getElem hj3, hn, h]
  · rw [List.take_of_length_le (by omega), List.take_of_length_le (by omega)] at hn
    rw [decide_eq_true hn]; exact ⟨rfl, hw⟩
abbrev strs (l : List ByteArray) : List Value := l.map Value.string
theorem sameT_spec {s t : Sl} {a b : List ByteArray} (hs : Ro R s (strs a)) (ht : Ro R t (strs b)) (hw : Sat R Hs w) :
    Gets Tryz.prog 61 #[.slice s.a s.len s.cap, .slice t.a t.len t.cap] w fun v w' => v = .bool (decide (a = b)) ∧ Sat R Hs w' := by
  have hsl := hs.len
  have htl := ht.len
  have hbd := hs.bound
  rw [List.length_map] at hsl htl hbd
  apply call61
  refine Br.ne (fun h => ⟨?_, hw⟩) (fun h => ?_)
  · rw [decide_eq_false fun e => h (by rw [hsl, htl, e])]
  have hl : a.length = b.length := by omega
  refine ⟨fun i w => ∃ j : Nat, i = j ∧ j ≤ a.length ∧ a.take j = b.take j ∧ Sat R Hs w, fun i _ => a.length - i.toNat, ⟨0, rfl, by omega, by simp, hw⟩, ?_⟩
  clear hw
  rintro _ _ w ⟨j, rfl, hj, hn, hw⟩
  refine Br.d (fun h => ?_) (fun h => ?_)
  · have hj2 : j < a.length := by omega
    have hj3 : j < b.length := by omega
    refine drw_rule hw fun w hw => ?_
    refine hs.idxStr selfS hj2 (ht.idxStr selfS hj3 ?_)
    refine Br.sne (fun h => ⟨?_, hw⟩) (fun h => ?_)
    · rw [decide_eq_false]; rintro rfl; exact h rfl
    · rw [wrap64 (by omega) (by omega)]
      refine ⟨⟨j + 1, by omega, by omega, ?_, hw⟩, by dsimp only; omega⟩
      rw [List.take_add_one, List.take_add_one, List.getElem?_eq_getElem hj2, List.getElem?_eq_getElem hj3, hn, h]
  · rw [List.take_of_length_le (by omega), List.take_of_length_le (by omega)] at hn
    rw [decide_eq_true hn]; exact ⟨rfl, hw⟩
end Go.Proofs.YtfgbbckfikiomaaGreatDoor
/- Reference 02 at this seat: numbers as bytes, a reader. Condition: bounds on lengths. -/
namespace Go.Proofs.YtfgbbckfikiomaaGreatDoor
set_option linter.unusedVariables false
open Go Go.VC
variable {R : Cx} {Hs Rest : List HP} {w : World}
theorem rnumber_spec {n : Nat} (hn : n < 18446744073709551616) (hw : Sat R Hs w) :
    Gets Tryz.prog 88 #[.int .u64 n] w fun v w' => ∃ t : Sl, v = .slice t.a t.len t.cap ∧ Sat R (Own t 5 (b8 (numB n)) :: Hs) w' := by
  apply call88
  have h8 := dig_len8 hn
  refine ⟨fun x out w => ∃ (m : Nat) (ds : List Int), x = m ∧ m ≤ n ∧ dig m ++ ds = dig n ∧ Sat R (Own out 5 (b8 ds) :: Hs) w, fun x _ _ => x.toNat, ⟨n, [], rfl, by omega, by simp, Own.nil hw⟩, ?_⟩
  clear hw
  rintro _ _ out w ⟨m, ds, rfl, hm, he, hw⟩
  have hdl : ds.length ≤ 8 := by rw [← he, List.length_append] at h8; omega
  refine Br.d (fun h => ?_) (fun h => ?_)
  · have e1 : IntKind.u8.wrap ((m : Int).tmod 256) = ((m % 256 : Nat) : Int) := by
      rw [show (m : Int).tmod 256 = ((m % 256 : Nat) : Int) from (Int.ofNat_tmod m 256).symm, wrapU8 (by omega) (by omega)]
    have e2 : IntKind.u64.wrap ((m : Int).tdiv 256) = ((m / 256 : Nat) : Int) := by
      rw [show (m : Int).tdiv 256 = ((m / 256 : Nat) : Int) from (Int.ofNat_tdiv m 256).symm, wrapU64 (by omega) (by omega)]
    rw [e1, e2]
    refine new_rule hw fun b w hw => ?_
    have hw : Sat R (Own ⟨some ⟨b, 0, none⟩, 1, 1⟩ 5 (b8 [((m % 256 : Nat) : Int)]) :: Own out 5 (b8 ds) :: Hs) w := own_lit hw
    refine appendOO elB8 (s := ⟨some ⟨b, 0, none⟩, 1, 1⟩) (n := 9) Tryz.underlying42 hw (by simp; omega) (by omega) (by omega) fun s' w hw => ?_
    refine ⟨⟨m / 256, [((m % 256 : Nat) : Int)] ++ ds, rfl, by omega, ?_, hw.cons fun _ h => h.drop⟩, by dsimp only; omega⟩
    rw [← List.append_assoc, ← dig_pos (by omega)]
    exact he
  · have hm0 : m = 0 := by omega
    subst hm0
    rw [dig_zero, List.nil_append] at he
    have hol : out.len = ds.length := by have := Own.len hw; simpa using this
    have e1 : IntKind.u8.wrap (out.len : Int) = ((dig n).length : Int) := by rw [wrapU8 (by omega) (by omega), hol, he]
    rw [e1]
    refine new_rule hw fun b w hw => ?_
    have hw : Sat R (Own ⟨some ⟨b, 0, none⟩, 1, 1⟩ 5 (b8 [((dig n).length : Int)]) :: Own out 5 (b8 ds) :: Hs) w := own_lit hw
    refine appendOO elB8 (s := ⟨some ⟨b, 0, none⟩, 1, 1⟩) (n := 9) Tryz.underlying42 hw (by simp; omega) (by omega) (by omega) fun s' w hw => ?_
    have e2 : numB n = [((dig n).length : Int)] ++ ds := by rw [he]; rfl
    rw [e2]
    exact ⟨s', rfl, hw.cons fun _ h => h.drop⟩
theorem rtextB_spec {s : Sl} {bs : List Int} (hs : Ro R s (b8 bs)) (hl : bs.length ≤ 1099511627776) (hw : Sat R Hs w) :
    Gets Tryz.prog 72 #[.slice s.a s.len s.cap] w fun v w' => ∃ t : Sl, v = .slice t.a t.len t.cap ∧ Sat R (Own t 5 (b8 (textB bs)) :: Hs) w' := by
  have hlen : s.len = bs.length := by have := hs.len; simpa using this
  apply call72
  unfold B72
  rw [wrapU64 (by omega) (by omega), hlen]
  refine (rnumber_spec (by omega) hw).use ?_
  rintro _ w ⟨t, rfl, hw⟩
  refine ⟨t, rfl, ?_⟩
  rw [← hlen]
  have hn := numB_len (n := bs.length) (by omega)
  refine appendRI elB8 (n := 1099511627790) Tryz.underlying42 hw hs (by omega) (by omega) (by omega) fun s2 w hw => ?_
  exact ⟨s2, rfl, hw⟩
abbrev rrCells (s : Sl) (n : Nat) (bad : Bool) : Obj := .cells [.slice s.a s.len s.cap, .int .i64 n, .bool bad].toArray 133 (0, 0)
def RRdAt (r : Nat) (s : Sl) (bs : List Int) (rd : Rd) : HP := exs fun n : Nat => Star [pur (n ≤ bs.length ∧ bs.drop n = rd.bs), pts r (rrCells s n rd.bad)]
theorem Sat.rrd {r : Nat} {s : Sl} {bs : List Int} {rd : Rd} : Sat R (RRdAt r s bs rd :: Hs) w ↔ ∃ n : Nat, (n ≤ bs.length ∧ bs.drop n = rd.bs) ∧ Sat R (pts r (rrCells s n rd.bad) :: Hs) w := by
  unfold RRdAt
  rw [Sat.exs]
  constructor
  · rintro ⟨n, h⟩
    have h := Sat.star.1 h
    have h : Sat R (pur _ :: pts r _ :: Hs) w := h
    rw [Sat.pur] at h
    exact ⟨n, h⟩
  · rintro ⟨n, h⟩
    exact ⟨n, Sat.star.2 (by show Sat R (pur _ :: pts r _ :: Hs) w; rw [Sat.pur]; exact h)⟩
theorem p256 {a b : Nat} (h : a ≤ b) : (256 : Int) ^ a ≤ 256 ^ b := by
  rw [show (256 : Int) = ((256 : Nat) : Int) from rfl, ← Int.natCast_pow, ← Int.natCast_pow]
  exact Int.ofNat_le.2 (Nat.pow_le_pow_right (by omega) h)
def nextR (rd : Rd) : Int × Bool × Int := if rd.bad then (0, false, 0) else match parse rd.bs with | some (n, neg, k) => (n, neg, (k : Int)) | none => (0, false, 0)
theorem rnext_spec {r : Nat} {s : Sl} {bs : List Int} {n : Nat} {bad : Bool} (hl : bs.length ≤ 1099511627776) (hb : ∀ x ∈ bs, 0 ≤ x ∧ x < 256) (hs : SlR R.m s (b8 bs)) (hn : n ≤ bs.length) (hw : Sat R (pts r (rrCells s n bad) :: Hs) w) :
    Gets Tryz.prog 148 #[.pointer (some ⟨r, 0, none⟩)] w fun v w' => v = .tuple #[.int .u64 (nextR ⟨bs.drop n, bad⟩).1, .bool (nextR ⟨bs.drop n, bad⟩).2.1, .int .i64 (nextR ⟨bs.drop n, bad⟩).2.2] ∧ Sat R (pts r (rrCells s n bad) :: Hs) w' := by
  have hlen : s.len = bs.length := by have := hs.len; simpa using this
  apply call148
  have no : nextR ⟨bs.drop n, bad⟩ = (0, false, 0) → ∀ {w}, Sat R (pts r (rrCells s n bad) :: Hs) w → (Value.tuple #[.int .u64 0, .bool false, .int .i64 0] = .tuple #[.int .u64 (nextR ⟨bs.drop n, bad⟩).1, .bool (nextR ⟨bs.drop n, bad⟩).2.1, .int .i64 (nextR ⟨bs.drop n, bad⟩).2.2] ∧ Sat R (pts r (rrCells s n bad) :: Hs) w) := fun e {w} hw => by
    rw [e]; exact ⟨rfl, hw⟩
  refine ⟨fun w => (bad = false ∧ n < bs.length) ∧ Sat R (pts r (rrCells s n bad) :: Hs) w, drw_rule hw fun w hw => ?_, ?_⟩
  · refine NilP.mk rfl ⟨bad, At.own selfS (by exact ⟨rfl, trivial⟩), Br.mk (fun h => no (by unfold nextR; rw [if_pos h]) hw) (fun h => ?_)⟩
    refine NilP.mk rfl ⟨n, At.own selfS (by exact ⟨rfl, trivial⟩), NilP.mk rfl ⟨s, At.own selfS (by exact ⟨rfl, trivial⟩), ?_⟩⟩
    rw [hlen]
    refine Br.d (fun h2 => no ?_ hw) (fun h2 => ⟨⟨h, by omega⟩, hw⟩)
    unfold nextR
    simp only
    rw [List.drop_eq_nil_of_le (by omega)]
    split <;> rfl
  clear hw
  rintro _ w ⟨⟨hbad, hlt⟩, hw⟩
  have hc := hb bs[n] (List.getElem_mem _)
  have hd : bs.drop n = bs[n] :: bs.drop (n + 1) := List.drop_eq_getElem_cons hlt
  have e0 : IntKind.i64.wrap bs[n] = bs[n] := wrap64 (by omega) (by omega)
  have nx : nextR ⟨bs.drop n, bad⟩ = match parse (bs[n] :: bs.drop (n + 1)) with | some (n, neg, k) => (n, neg, (k : Int)) | none => (0, false, 0) := by
    unfold nextR; rw [hbad, hd]; rfl
  refine drw_rule hw fun w hw => ?_
  refine NilP.mk rfl ⟨s, At.own selfS (by exact ⟨rfl, trivial⟩), NilP.mk rfl ⟨n, At.own selfS (by exact ⟨rfl, trivial⟩), hs.ix selfS n rfl hlt ?_⟩⟩
  rw [e0]
  have hkn : 0 ≤ (if 16 ≤ bs[n] then bs[n] - 16 else bs[n]) := by split <;> omega
  obtain ⟨k, hk⟩ := Int.eq_ofNat_of_zero_le hkn
  have hk2 : (if 16 ≤ bs[n] then bs[n] - 16 else bs[n]).toNat = k := by rw [hk]; rfl
  refine ⟨fun x w => x = (k : Int) ∧ Sat R (pts r (rrCells s n bad) :: Hs) w, Br.d (fun h => ⟨?_, hw⟩) (fun h => ⟨?_, hw⟩), ?_⟩
  · rw [wrap64 (by omega) (by omega), ← hk, if_pos (by omega)]
  · rw [← hk, if_neg (by omega)]
  clear hw
  rintro _ _ w ⟨rfl, hw⟩
  have dl : (bs.drop (n + 1)).length = bs.length - (n + 1) := List.length_drop
  have pno : ¬ (bs[n] < 32 ∧ k ≤ 8 ∧ k ≤ (bs.drop (n + 1)).length ∧ (k = 0 → bs[n] = 0) ∧ (k ≠ 0 → (bs.drop (n + 1)).head? ≠ some 0)) → nextR ⟨bs.drop n, bad⟩ = (0, false, 0) := fun h => by
    rw [nx]; unfold parse; simp only [hk2]; rw [if_neg h]
  have pyes : (bs[n] < 32 ∧ k ≤ 8 ∧ k ≤ (bs.drop (n + 1)).length ∧ (k = 0 → bs[n] = 0) ∧ (k ≠ 0 → (bs.drop (n + 1)).head? ≠ some 0)) → nextR ⟨bs.drop n, bad⟩ = (valI 0 ((bs.drop (n + 1)).take k), decide (16 ≤ bs[n]), ((k + 1 : Nat) : Int)) := fun h => by
    rw [nx]; unfold parse; simp only [hk2]; rw [if_pos h]
  refine ⟨fun w => (bs[n] < 32 ∧ k ≤ 8 ∧ k ≤ (bs.drop (n + 1)).length ∧ (k = 0 → bs[n] = 0) ∧ (k ≠ 0 → (bs.drop (n + 1)).head? ≠ some 0)) ∧ Sat R (pts r (rrCells s n bad) :: Hs) w, drw_rule hw fun w hw => ?_, ?_⟩
  · refine Br.d (fun h => no (pno fun h2 => by omega) hw) (fun h8 => ?_)
    refine NilP.mk rfl ⟨n, At.own selfS (by exact ⟨rfl, trivial⟩), NilP.mk rfl ⟨s, At.own selfS (by exact ⟨rfl, trivial⟩), ?_⟩⟩
    rw [wrap64 (x := (n : Int) + 1) (by omega) (by omega), wrap64 (by omega) (by omega), hlen]
    refine Br.d (fun h => no (pno fun h2 => by omega) hw) (fun hln => ?_)
    have h32 : bs[n] < 32 := by split at hk <;> omega
    have last : (k ≠ 0 ∨ bs[n] = 0) → Br (decide ((k : Int) > 0))
             (NilP (some ⟨r, 0, none⟩) fun a_t70 =>
              ∃ t72 : Sl, (At (Sat R (pts r (rrCells s n bad) :: Hs)) (Addr.add a_t70 0) [.slice t72.a t72.len t72.cap]) ∧
              NilP (some ⟨r, 0, none⟩) fun a_t74 =>
              ∃ t76 : Int, (At (Sat R (pts r (rrCells s n bad) :: Hs)) ⟨a_t74.block, a_t74.off + 1, none⟩ [.int .i64 t76]) ∧
              Rng (IntKind.i64.wrap (t76 + 1)) t72.len (NilP t72.a fun a_t78 =>
              ∃ t79 : Int, (At (Sat R (pts r (rrCells s n bad) :: Hs)) (Addr.add a_t78 ((IntKind.i64.wrap (t76 + 1)).toNat)) [.int .u8 t79]) ∧
              Br (t79 == 0)
               (Value.tuple #[.int .u64 0, .bool false, .int .i64 0] = .tuple #[.int .u64 (nextR ⟨bs.drop n, bad⟩).1, .bool (nextR ⟨bs.drop n, bad⟩).2.1, .int .i64 (nextR ⟨bs.drop n, bad⟩).2.2] ∧ Sat R (pts r (rrCells s n bad) :: Hs) w)
               ((bs[n] < 32 ∧ k ≤ 8 ∧ k ≤ (bs.drop (n + 1)).length ∧ (k = 0 → bs[n] = 0) ∧ (k ≠ 0 → (bs.drop (n + 1)).head? ≠ some 0)) ∧ Sat R (pts r (rrCells s n bad) :: Hs) w)))
             ((bs[n] < 32 ∧ k ≤ 8 ∧ k ≤ (bs.drop (n + 1)).length ∧ (k = 0 → bs[n] = 0) ∧ (k ≠ 0 → (bs.drop (n + 1)).head? ≠ some 0)) ∧ Sat R (pts r (rrCells s n bad) :: Hs) w) := fun hz => by
      refine Br.d (fun h => ?_) (fun h => ⟨⟨h32, by omega, by omega, by omega, fun h2 => by omega⟩, hw⟩)
      refine NilP.mk rfl ⟨s, At.own selfS (by exact ⟨rfl, trivial⟩), NilP.mk rfl ⟨n, At.own selfS (by exact ⟨rfl, trivial⟩), ?_⟩⟩
      rw [wrap64 (by omega) (by omega)]
      have hn1 : n + 1 < bs.length := by omega
      have hh : (bs.drop (n + 1)).head? = some bs[n + 1] := by rw [List.drop_eq_getElem_cons hn1]; rfl
      refine hs.ix selfS (n + 1) (by omega) hn1 ?_
      refine Br.e (fun h0 => no (pno fun h2 => ?_) hw) (fun h0 => ⟨⟨h32, by omega, by omega, by omega, fun h2 => ?_⟩, hw⟩)
      · exact h2.2.2.2.2 (by omega) (by rw [hh, h0])
      · rw [hh]; intro h3; exact h0 (Option.some.inj h3)
    refine Br.d (fun h16 => ?_) (fun h16 => ?_)
    · refine Br.e (fun h0 => no (pno fun h2 => ?_) hw) (fun h0 => last (.inl (by omega)))
      have := h2.2.2.2.1 (by omega)
      omega
    · refine last ?_
      rw [if_neg (by omega)] at hk
      by_cases hk0 : k = 0
      · exact .inr (by omega)
      · exact .inl hk0
  clear hw
  rintro _ w ⟨hp, hw⟩
  have e := pyes hp
  rw [e]
  obtain ⟨h32, hk8, hkl, _, _⟩ := hp
  have hbd : ∀ j, ∀ x ∈ (bs.drop (n + 1)).take j, 0 ≤ x ∧ x < 256 := fun j x hx => hb x (List.mem_of_mem_drop (List.mem_of_mem_take hx))
  have vb : ∀ j, j ≤ 8 → 0 ≤ valI 0 ((bs.drop (n + 1)).take j) ∧ valI 0 ((bs.drop (n + 1)).take j) < 256 ^ j := fun j hj => by
    refine ⟨valI_nn (by omega) (hbd j), ?_⟩
    have h1 := valI_lt (acc := 0) (by omega) (hbd j)
    have h2 : ((bs.drop (n + 1)).take j).length ≤ j := by rw [List.length_take]; omega
    have h3 : (256 : Int) ^ ((bs.drop (n + 1)).take j).length ≤ 256 ^ j := p256 h2
    rw [show (0 : Int) + 1 = 1 from rfl, Int.one_mul] at h1
    omega
  refine ⟨fun x i w => ∃ j : Nat, i = j ∧ j ≤ k ∧ x = valI 0 ((bs.drop (n + 1)).take j) ∧ Sat R (pts r (rrCells s n bad) :: Hs) w, fun _ i _ => k - i.toNat, ⟨0, rfl, by omega, rfl, hw⟩, ?_⟩
  clear hw
  rintro _ _ _ w ⟨j, rfl, hj, rfl, hw⟩
  refine Br.d (fun h => drw_rule hw fun w hw => ?_) (fun h => ?_)
  · refine NilP.mk rfl ⟨s, At.own selfS (by exact ⟨rfl, trivial⟩), NilP.mk rfl ⟨n, At.own selfS (by exact ⟨rfl, trivial⟩), ?_⟩⟩
    rw [wrap64 (x := (n : Int) + 1) (by omega) (by omega), wrap64 (x := (n : Int) + 1 + j) (by omega) (by omega)]
    have hnj : n + 1 + j < bs.length := by omega
    refine hs.ix selfS (n + 1 + j) (by omega) hnj ?_
    have hx := hb bs[n + 1 + j] (List.getElem_mem _)
    have et : (bs.drop (n + 1)).take (j + 1) = (bs.drop (n + 1)).take j ++ [bs[n + 1 + j]] := by
      rw [List.take_add_one, List.getElem?_drop, List.getElem?_eq_getElem hnj]; rfl
    have hv := vb j (by omega)
    have hv2 := vb (j + 1) (by omega)
    rw [et, valI_snoc] at hv2
    have h7 : (256 : Int) ^ j ≤ 256 ^ 7 := p256 (by omega)
    have hv3 := hv.2
    have e7 : (256 : Int) ^ 7 = 72057594037927936 := by decide
    rw [wrapU64 (x := bs[n + 1 + j]) (by omega) (by omega), wrapU64 (x := valI 0 ((bs.drop (n + 1)).take j) * 256) (by omega) (by omega), wrapU64 (by omega) (by omega), wrap64 (by omega) (by omega)]
    exact ⟨⟨j + 1, by omega, by omega, by rw [et, valI_snoc], hw⟩, by dsimp only; omega⟩
  · have : j = k := by omega
    subst this
    rw [wrap64 (by omega) (by omega)]
    refine ⟨?_, hw⟩
    simp
theorem rrnum_spec {r : Nat} {s : Sl} {bs : List Int} {rd : Rd} {most : Int} (hl : bs.length ≤ 1099511627776) (hb : ∀ x ∈ bs, 0 ≤ x ∧ x < 256) (hs : SlR R.m s (b8 bs)) (hw : Sat R (RRdAt r s bs rd :: Hs) w) :
    Gets Tryz.prog 84 #[.pointer (some ⟨r, 0, none⟩), .int .u64 most] w fun v w' => v = .int .u64 (rdNum most rd).1 ∧ Sat R (RRdAt r s bs (rdNum most rd).2 :: Hs) w' := by
  obtain ⟨n, ⟨hn, hd⟩, hw⟩ := Sat.rrd.1 hw
  apply call84
  refine (rnext_spec hl hb hs hn hw).use ?_
  rintro _ w ⟨rfl, hw⟩
  refine ⟨_, _, _, rfl, ?_⟩
  rw [hd]
  have bad : rdNum most rd = (0, ⟨rd.bs, true⟩) → NilP (some ⟨r, 0, none⟩) fun a_t25 =>
      ∃ w_2 : World, ((Instr.storeAt 4 (.pointer ((some ⟨a_t25.block, a_t25.off + 2, none⟩))) (.bool true)).run Tryz.prog w = .ok () w_2) ∧
      (Value.int .u64 0 = .int .u64 (rdNum most rd).1 ∧ Sat R (RRdAt r s bs (rdNum most rd).2 :: Hs) w_2) := fun e => by
    refine NilP.mk rfl ?_
    refine store_rule hw (by kernel_rfl) rfl (by simp [Value.cells]) fun w hw => ?_
    have hw := hw.re (pts r (rrCells s n true))
    rw [e]
    exact ⟨rfl, Sat.rrd.2 ⟨n, ⟨hn, hd⟩, hw⟩⟩
  refine ⟨fun w => (∃ x k, rd.bad = false ∧ parse rd.bs = some (x, false, k) ∧ x ≤ most) ∧ Sat R (pts r (rrCells s n rd.bad) :: Hs) w, ?_, ?_⟩
  · by_cases hbd : rd.bad = true
    · have e : nextR ⟨rd.bs, rd.bad⟩ = (0, false, 0) := by unfold nextR; rw [if_pos hbd]
      rw [e]; dsimp only
      refine Br.mk (fun h => bad ?_) (fun h => by simp at h)
      unfold rdNum; rw [if_pos hbd]; rw [show rd = ⟨rd.bs, rd.bad⟩ from rfl, hbd]
    · have hbd : rd.bad = false := by simpa using hbd
      cases hp : parse rd.bs with
      | none =>
        have e : nextR ⟨rd.bs, rd.bad⟩ = (0, false, 0) := by unfold nextR; simp [hp]
        rw [e]; dsimp only
        refine Br.mk (fun h => bad ?_) (fun h => by simp at h)
        unfold rdNum; rw [if_neg (by rw [hbd]; simp), hp]
      | some p =>
        obtain ⟨x, neg, k⟩ := p
        have e : nextR ⟨rd.bs, rd.bad⟩ = (x, neg, (k : Int)) := by unfold nextR; simp [hp, hbd]
        rw [e]; dsimp only
        have hb2 : ∀ x ∈ rd.bs, 0 ≤ x ∧ x < 256 := fun x hx => hb x (by rw [← hd] at hx; exact List.mem_of_mem_drop hx)
        obtain ⟨_, _, k0, _, _⟩ := parse_bd hb2 hp
        have e2 : rdNum most rd = if neg = false ∧ x ≤ most then (x, ⟨rd.bs.drop k, false⟩) else (0, ⟨rd.bs, true⟩) := by
          unfold rdNum; rw [if_neg (by rw [hbd]; simp), hp]
        refine Br.e (fun h => by omega) (fun _ => Br.mk (fun h => bad ?_) (fun h => Br.d (fun h2 => bad ?_) (fun h2 => ?_)))
        · rw [e2, if_neg (by rintro ⟨h3, _⟩; rw [h3] at h; cases h)]
        · rw [e2, if_neg (by rintro ⟨_, h3⟩; omega)]
        · exact ⟨⟨x, k, hbd, by rw [h], by omega⟩, hw⟩
  clear bad hw
  rintro _ w ⟨⟨x, k, hbd, hp, hx⟩, hw⟩
  have hb2 : ∀ x ∈ rd.bs, 0 ≤ x ∧ x < 256 := fun x hx => hb x (by rw [← hd] at hx; exact List.mem_of_mem_drop hx)
  obtain ⟨_, _, k0, _, k2⟩ := parse_bd hb2 hp
  have e : nextR ⟨rd.bs, rd.bad⟩ = (x, false, (k : Int)) := by unfold nextR; simp [hp, hbd]
  have e2 : rdNum most rd = (x, ⟨rd.bs.drop k, false⟩) := by
    unfold rdNum; rw [if_neg (by rw [hbd]; simp), hp]; dsimp only; rw [if_pos ⟨rfl, hx⟩]
  rw [e, e2]
  dsimp only
  have hlen : rd.bs.length = bs.length - n := by rw [← hd, List.length_drop]
  refine NilP.mk rfl ⟨n, At.own (eqS hw) (by exact ⟨rfl, trivial⟩), NilP.mk rfl ?_⟩
  dsimp only
  rw [wrap64 (by omega) (by omega)]
  refine store_rule hw (by kernel_rfl) rfl (by simp [Value.cells]) fun w hw => ?_
  rw [hbd] at hw
  have hw := hw.re (pts r (rrCells s (n + k) false))
  exact ⟨rfl, Sat.rrd.2 ⟨n + k, ⟨by omega, by rw [← List.drop_drop, hd]⟩, hw⟩⟩
theorem rrwhole_spec {r : Nat} {s : Sl} {bs : List Int} {rd : Rd} (hs : SlR R.m s (b8 bs)) (hw : Sat R (RRdAt r s bs rd :: Hs) w) :
    Gets Tryz.prog 86 #[.pointer (some ⟨r, 0, none⟩)] w fun v w' => v = .bool (rdWhole rd) ∧ Sat R (RRdAt r s bs rd :: Hs) w' := by
  have hsl : s.len = bs.length := by have := hs.len; simpa using this
  obtain ⟨n, ⟨hn, hd⟩, hw⟩ := Sat.rrd.1 hw
  have hlen : rd.bs.length = bs.length - n := by rw [← hd, List.length_drop]
  apply call86
  refine drw_rule hw fun w hw => ?_
  refine NilP.mk rfl ⟨rd.bad, At.own selfS (by exact ⟨rfl, trivial⟩), Br.nb (fun h => ?_) (fun h => ?_)⟩
  · refine NilP.mk rfl ⟨n, At.own selfS (by exact ⟨rfl, trivial⟩), NilP.mk rfl ⟨s, At.own selfS (by exact ⟨rfl, trivial⟩), ?_, Sat.rrd.2 ⟨n, ⟨hn, hd⟩, hw⟩⟩⟩
    unfold rdWhole
    rw [h, hsl]
    congr 1
    rw [Bool.not_false, Bool.true_and, hlen]
    show decide ((n : Int) = (bs.length : Int)) = _
    rw [decide_eq_decide]; omega
  · refine ⟨?_, Sat.rrd.2 ⟨n, ⟨hn, hd⟩, hw⟩⟩
    unfold rdWhole
    rw [h]; rfl
end Go.Proofs.YtfgbbckfikiomaaGreatDoor
/- Numbers, one behind the other: Encode's inner function; reference 15's numbers. Condition: bounds on lengths. -/
namespace Go.Proofs.YtfgbbckfikiomaaGreatDoor
set_option linter.unusedVariables false
open Go Go.VC
variable {R : Cx} {Hs Rest : List HP} {w : World}
def numsB (l : List Int) : List Int := (l.map fun x => numB x.toNat).flatten
theorem numsB_len : ∀ {l : List Int}, (∀ x ∈ l, 0 ≤ x ∧ x < 18446744073709551616) → (numsB l).length ≤ 9 * l.length
  | [], _ => by simp [numsB]
  | x :: l, h => by
    have h1 := h x (List.mem_cons_self ..)
    have := numB_len (n := x.toNat) (by omega)
    have h2 := numsB_len (l := l) fun y hy => h y (List.mem_cons_of_mem _ hy)
    unfold numsB at h2 ⊢
    rw [List.map_cons, List.flatten_cons, List.length_append, List.length_cons]
    omega
theorem numsB_app (a b : List Int) : numsB (a ++ b) = numsB a ++ numsB b := by simp [numsB]
end Go.Proofs.YtfgbbckfikiomaaGreatDoor
/- Lists of holds in memory. Condition: none. -/
namespace Go.Proofs.YtfgbbckfikiomaaGreatDoor
set_option linter.unusedVariables false
open Go Go.VC
variable {R : Cx} {Hs Rest : List HP} {w : World}
def rowH (h : Hold) (t : Sl) : List Value := [.int .i64 h.owner, .int .i64 h.cls, .int .i64 h.many, .slice t.a t.len t.cap]
def rowsH (L : List Hold) (ts : List Sl) : List (List Value) := (L.zip ts).map fun x => rowH x.1 x.2
def seatsH (L : List Hold) (ts : List Sl) : List HP := (L.zip ts).map fun x => Reads x.2 (intsI x.1.seats)
def HoldsL (s : Sl) (L : List Hold) : HP := exs fun ts : List Sl => Star (pur (ts.length = L.length) :: OwnN 4 s 176 (rowsH L ts) :: seatsH L ts)
theorem Sat.holdsL {s : Sl} {L : List Hold} : Sat R (HoldsL s L :: Hs) w ↔ ∃ ts : List Sl, ts.length = L.length ∧ Sat R (OwnN 4 s 176 (rowsH L ts) :: (seatsH L ts ++ Hs)) w := by
  unfold HoldsL
  rw [Sat.exs]
  constructor
  · rintro ⟨ts, h⟩
    obtain ⟨h1, h2⟩ := Sat.pur.1 (Sat.star.1 h)
    exact ⟨ts, h1, h2⟩
  · rintro ⟨ts, h1, h2⟩
    exact ⟨ts, Sat.star.2 (Sat.pur.2 ⟨h1, h2⟩)⟩
structure HsR (R : Cx) (s : Sl) (L : List Hold) (ts : List Sl) : Prop where
  len : ts.length = L.length
  rows : RoN 4 R s (rowsH L ts)
  seats : ∀ i (h : i < L.length) (h' : i < ts.length), SlR R.m ts[i] (intsI L[i].seats)
theorem seats_leak : ∀ {L : List Hold} {ts : List Sl} {R : Cx}, ts.length = L.length → Sat R (seatsH L ts ++ Hs) w → ∃ R' : Cx, R.Ext R' ∧ (∀ i (h : i < L.length) (h' : i < ts.length), SlR R'.m ts[i] (intsI L[i].seats)) ∧ Sat R' Hs w
  | [], _, R, _, hw => ⟨R, Cx.Ext.refl, fun i h => by simp at h, by simpa [seatsH] using hw⟩
  | h :: L, [], R, hl, _ => by simp at hl
  | h :: L, t :: ts, R, hl, hw => by
    have hw : Sat R (Reads t (intsI h.seats) :: (seatsH L ts ++ Hs)) w := hw
    obtain ⟨R1, e1, s1, hw⟩ := Reads.leak hw
    obtain ⟨R2, e2, s2, hw⟩ := seats_leak (by simpa using hl) hw
    refine ⟨R2, e1.trans e2, fun i h h' => ?_, hw⟩
    rcases i with _ | i
    · exact e2.slR s1
    · exact s2 i (by simpa using h) (by simpa using h')
theorem HoldsL.leak {s : Sl} {L : List Hold} (hw : Sat R (HoldsL s L :: Hs) w) : ∃ (R' : Cx) (ts : List Sl), R.Ext R' ∧ HsR R' s L ts ∧ Sat R' Hs w := by
  obtain ⟨ts, hl, hw⟩ := Sat.holdsL.1 hw
  obtain ⟨R1, e1, hr, hw⟩ := OwnN.leak hw
  obtain ⟨R2, e2, hs, hw⟩ := seats_leak hl hw
  exact ⟨R2, ts, e1.trans e2, ⟨hl, e2.roN hr, hs⟩, hw⟩
end Go.Proofs.YtfgbbckfikiomaaGreatDoor
/- Whether two lists of holds are the same: reference 15. Condition: none. -/
namespace Go.Proofs.YtfgbbckfikiomaaGreatDoor
set_option linter.unusedVariables false
open Go Go.VC
variable {R : Cx} {Hs Rest : List HP} {w : World}
theorem rowsH_len {L : List Hold} {ts : List Sl} (h : ts.length = L.length) : (rowsH L ts).length = L.length := by simp [rowsH, h]
theorem rowsH_at {L : List Hold} {ts : List Sl} {k : Nat} (h : k < L.length) (h' : k < ts.length) (h2 : k < (rowsH L ts).length) : (rowsH L ts)[k] = rowH L[k] ts[k] := by simp [rowsH]
theorem HsR.fld {s : Sl} {L : List Hold} {ts : List Sl} {S : World → Prop} {k j : Nat} {v : Value} (hr : HsR R s L ts) (hS : ∀ w, S w → Sat R Hs w) (hk : k < L.length) (hk' : k < ts.length) (hv : (rowH L[k] ts[k])[j]? = some v) {F : Addr → Prop}
    (f : ∀ a : Addr, a.spot = none → At S ⟨(a.add (mulS k 4)).block, (a.add (mulS k 4)).off + j, none⟩ [v] → F a) : Rng (k : Int) s.len (NilP s.a F) := by
  have hl := rowsH_len hr.len
  refine (hr.rows.reads hS).rng (k := k) (by omega) fun b off ha hat => f _ rfl ?_
  rw [elt_addr]
  refine hat j [v] ?_
  rw [rowsH_at hk hk']
  obtain ⟨hlt, he⟩ := List.getElem?_eq_some_iff.1 hv
  rw [List.drop_eq_getElem_cons hlt, he]
  exact ⟨rfl, trivial⟩
def holdEq (a b : Hold) : Prop := a.owner = b.owner ∧ a.cls = b.cls ∧ a.many = b.many ∧ a.seats = b.seats
theorem hold_ext {a b : Hold} (h : holdEq a b) : a = b := by
  obtain ⟨h1, h2, h3, h4⟩ := h
  cases a; cases b; simp_all
instance : DecidableEq Hold := fun a b => decidable_of_iff (a.owner = b.owner ∧ a.cls = b.cls ∧ a.many = b.many ∧ a.seats = b.seats) ⟨hold_ext, fun h => by subst h; exact ⟨rfl, rfl, rfl, rfl⟩⟩
end Go.Proofs.YtfgbbckfikiomaaGreatDoor
/- Reference 15's flight in memory; place. Condition: none. -/
namespace Go.Proofs.YtfgbbckfikiomaaGreatDoor
set_option linter.unusedVariables false
open Go Go.VC
variable {R : Cx} {Hs Rest : List HP} {w : World}
structure RF where
  num : Int
  rows : Int
  grps : List Int
  lims : List Int
  L : List Hold
abbrev rCells (r : RF) (sg sl s : Sl) : Obj := .cells [.int .i64 r.num, .int .i64 r.rows, .slice sg.a sg.len sg.cap, .slice sl.a sl.len sl.cap, .slice s.a s.len s.cap].toArray 149 (0, 0)
end Go.Proofs.YtfgbbckfikiomaaGreatDoor
/- A flight, plain: the document's steps; how the program's go with them. No program in sight. Condition: none. -/
namespace Go.Proofs.YtfgbbckfikiomaaGreatDoor
set_option linter.unusedVariables false
open Go Go.VC
def cntL (k : Int) : List Hold → Int
  | [] => 0
  | h :: L => (if h.cls = k then h.many else 0) + cntL k L
def soldL (n : Nat) (L : List Hold) : List Int := (List.range n).map fun (k : Nat) => cntL (k : Int) L
def takenL (L : List Hold) : List Int := L.flatMap Hold.seats
theorem cntL_cons (k : Int) (h : Hold) (L : List Hold) : cntL k (h :: L) = (if h.cls = k then h.many else 0) + cntL k L := rfl
theorem cntL_app (k : Int) : ∀ A B : List Hold, cntL k (A ++ B) = cntL k A + cntL k B
  | [], B => by simp [cntL]
  | h :: A, B => by simp only [List.cons_append, cntL, cntL_app k A B]; omega
theorem cntL_perm {k : Int} {A B : List Hold} (h : A.Perm B) : cntL k A = cntL k B := by
  induction h with
  | nil => rfl
  | cons x _ ih => simp only [cntL, ih]
  | swap x y l => simp only [cntL]; exact Int.add_left_comm _ _ _
  | trans _ _ a b => exact a.trans b
theorem soldL_len (n : Nat) (L : List Hold) : (soldL n L).length = n := by simp [soldL]
theorem soldL_get {n k : Nat} {L : List Hold} (h : k < (soldL n L).length) : (soldL n L)[k] = cntL (k : Int) L := by simp [soldL]
theorem soldL_getD {n k : Nat} {L : List Hold} (h : k < n) : (soldL n L).getD k 0 = cntL (k : Int) L := by
  rw [List.getD_eq_getElem?_getD, List.getElem?_eq_getElem (by rw [soldL_len]; exact h), soldL_get]; rfl
theorem soldL_set {n : Nat} {L L' : List Hold} {c : Int} {x : Int} (h0 : 0 ≤ c) (h1 : c < n) (hc : cntL c L' = x) (ho : ∀ k : Nat, (k : Int) ≠ c → cntL (k : Int) L' = cntL (k : Int) L) : (soldL n L).set c.toNat x = soldL n L' := by
  apply List.ext_getElem
  · simp [soldL]
  · intro i h2 h3
    rw [List.getElem_set]
    split
    · rename_i e
      rw [soldL_get]
      rw [← hc]
      congr 1
      omega
    · rename_i e
      rw [soldL_get, soldL_get]
      exact (ho i (by omega)).symm
theorem soldL_put {n : Nat} {h : Hold} {L L' : List Hold} (p : L'.Perm (h :: L)) (h0 : 0 ≤ h.cls) (h1 : h.cls < n) : (soldL n L).set h.cls.toNat ((soldL n L).getD h.cls.toNat 0 + h.many) = soldL n L' := by
  refine soldL_set h0 h1 ?_ fun k hk => ?_
  · rw [soldL_getD (by omega), cntL_perm p, show ((h.cls.toNat : Nat) : Int) = h.cls by omega]
    rw [cntL_cons, if_pos rfl]; omega
  · rw [cntL_perm p]
    show (if h.cls = (k : Int) then h.many else 0) + cntL (k : Int) L = _
    rw [if_neg (fun e => hk e.symm)]; omega
def getO (o : Int) : List Hold → Option Hold
  | [] => none
  | h :: L => if h.owner = o then some h else getO o L
def insH (h : Hold) : List Hold → List Hold
  | [] => [h]
  | x :: L => if x.owner < h.owner then x :: insH h L else h :: x :: L
theorem getO_cons (o : Int) (h : Hold) (L : List Hold) : getO o (h :: L) = if h.owner = o then some h else getO o L := rfl
def OwR (L : List Hold) : Prop := L.Pairwise fun a b => a.owner < b.owner
theorem OwR.ne {L : List Hold} (h : OwR L) : L.Pairwise fun a b => a.owner ≠ b.owner := h.imp fun h e => by omega
theorem getO_iff {o : Int} {h : Hold} : ∀ {L : List Hold}, (L.Pairwise fun a b => a.owner ≠ b.owner) → (getO o L = some h ↔ h ∈ L ∧ h.owner = o)
  | [], _ => by simp [getO]
  | x :: L, hp => by
    obtain ⟨h1, h2⟩ := List.pairwise_cons.1 hp
    rw [getO_cons]
    split
    · rename_i hx
      constructor
      · intro e; cases e; exact ⟨List.mem_cons_self, hx⟩
      · rintro ⟨hm, ho⟩
        rcases List.mem_cons.1 hm with rfl | hm
        · rfl
        · exact absurd (hx.trans ho.symm) (h1 h hm)
    · rename_i hx
      rw [getO_iff h2]
      constructor
      · rintro ⟨a, b⟩; exact ⟨List.mem_cons_of_mem _ a, b⟩
      · rintro ⟨hm, ho⟩
        rcases List.mem_cons.1 hm with rfl | hm
        · exact absurd ho hx
        · exact ⟨hm, ho⟩
theorem getO_perm {o : Int} {A B : List Hold} (p : A.Perm B) (h : A.Pairwise fun a b => a.owner ≠ b.owner) : getO o A = getO o B := by
  have h' : B.Pairwise fun a b => a.owner ≠ b.owner := (p.pairwise_iff fun h => h.symm).1 h
  apply Option.ext
  intro x
  rw [getO_iff h, getO_iff h', p.mem_iff]
def RF.sold (r : RF) : List Int := soldL r.lims.length r.L
def rtakeF (r : RF) (owner cls many : Int) : RF × Int :=
  if owner < 1 ∨ owner > 28629151 then (r, 1) else if (getO owner r.L).isSome then (r, 7)
  else if (sellT r.lims r.sold cls many).2 = 0 then ({ r with L := insH ⟨owner, cls, many, []⟩ r.L }, 0) else (r, (sellT r.lims r.sold cls many).2)
def rleftsF (r : RF) : List Int := (List.range r.lims.length).map fun (k : Nat) => (leftT r.lims r.sold k).1
structure HoldOk (n : Nat) (N : Int) (h : Hold) : Prop where
  owner : 1 ≤ h.owner ∧ h.owner ≤ 28629151
  cls : 0 ≤ h.cls ∧ h.cls < n
  many : 1 ≤ h.many
  rise : Rise h.seats
  few : (h.seats.length : Int) ≤ h.many
  seats : ∀ x ∈ h.seats, 0 ≤ x ∧ x < N
structure Good (r : RF) : Prop where
  num : 1 ≤ r.num ∧ r.num ≤ 9999
  lay : layOk r.rows r.grps = true
  nest : nestOk r.lims r.sold = true
  l0 : r.lims.getD 0 0 = layN r.rows r.grps
  rise : OwR r.L
  each : ∀ h ∈ r.L, HoldOk r.lims.length (layN r.rows r.grps) h
  apart : r.L.Pairwise fun a b => ∀ x ∈ a.seats, x ∉ b.seats
structure Tie (f : PF) (r : RF) : Prop where
  num : f.num = r.num
  rows : f.rows = r.rows
  grps : f.grps = r.grps
  lims : f.lims = r.lims
  sold : f.sold = r.sold
  hs : (f.hs.map (·.2)).Perm r.L
  key : ∀ e ∈ f.hs, e.2.owner = e.1
  own : ∀ n o, getM n f.own = some o ↔ ∃ h ∈ r.L, h.owner = o ∧ n ∈ h.seats
  nod : (f.own.map (·.1)).Nodup
theorem tie_get1 {o : Int} : ∀ {hs : List (Int × Hold)}, (∀ e ∈ hs, e.2.owner = e.1) → getM o hs = getO o (hs.map (·.2))
  | [], _ => rfl
  | e :: hs, h => by
    have h1 := h e List.mem_cons_self
    have ih := tie_get1 (o := o) fun x hx => h x (List.mem_cons_of_mem _ hx)
    rw [List.map_cons, getO_cons, h1, ← ih]
    show (if o == e.1 then some e.2 else getM o hs) = _
    by_cases he : e.1 = o
    · rw [if_pos he, if_pos (by rw [he]; exact beq_self_eq_true o)]
    · rw [if_neg he, if_neg (by rw [beq_iff_eq]; exact fun e' => he e'.symm)]
variable {f : PF} {r : RF}
theorem Tie.ne (t : Tie f r) (g : OwR r.L) : (f.hs.map (·.2)).Pairwise fun a b => a.owner ≠ b.owner := (t.hs.pairwise_iff fun h => h.symm).2 g.ne
theorem Tie.get (t : Tie f r) (g : OwR r.L) (o : Int) : getM o f.hs = getO o r.L := by
  rw [tie_get1 t.key, getO_perm t.hs (t.ne g)]
end Go.Proofs.YtfgbbckfikiomaaGreatDoor
/- A flight: Holds. Condition: bounds on lengths. -/
namespace Go.Proofs.YtfgbbckfikiomaaGreatDoor
set_option linter.unusedVariables false
open Go Go.VC
variable {R : Cx} {Hs Rest : List HP} {w : World}
def hold0 : Hold := ⟨0, 0, 0, []⟩
def holdOf (f : PF) (k : Int) : Hold := (getM k f.hs).getD hold0
def holdsF (f : PF) : List Hold := (sortI (f.hs.map (·.1))).map (holdOf f)
theorem HoldsL.nil (hw : Sat R Hs w) : Sat R (HoldsL ⟨none, 0, 0⟩ [] :: Hs) w := Sat.holdsL.2 ⟨[], rfl, OwnN.nil hw⟩
theorem rowsH_snoc {L : List Hold} {ts : List Sl} (hl : ts.length = L.length) (h : Hold) (t : Sl) : rowsH (L ++ [h]) (ts ++ [t]) = rowsH L ts ++ [rowH h t] := by
  unfold rowsH
  rw [List.zip_append hl.symm, List.map_append]; rfl
theorem seatsH_snoc {L : List Hold} {ts : List Sl} (hl : ts.length = L.length) (h : Hold) (t : Sl) : seatsH (L ++ [h]) (ts ++ [t]) = seatsH L ts ++ [Reads t (intsI h.seats)] := by
  unfold seatsH
  rw [List.zip_append hl.symm, List.map_append]; rfl
theorem HoldsL.snoc {s : Sl} {L : List Hold} {ts : List Sl} {h : Hold} {t : Sl} (hl : ts.length = L.length) (hw : Sat R (OwnN 4 s 176 (rowsH L ts ++ [rowH h t]) :: Reads t (intsI h.seats) :: (seatsH L ts ++ Hs)) w) : Sat R (HoldsL s (L ++ [h]) :: Hs) w := by
  refine Sat.holdsL.2 ⟨ts ++ [t], by simp [hl], ?_⟩
  rw [rowsH_snoc hl, seatsH_snoc hl, List.append_assoc]
  exact hw.cons fun _ h5 => h5.perm List.perm_middle.symm
end Go.Proofs.YtfgbbckfikiomaaGreatDoor
/- A flight's bytes. Condition: bounds on lengths. -/
namespace Go.Proofs.YtfgbbckfikiomaaGreatDoor
set_option linter.unusedVariables false
open Go Go.VC
variable {R : Cx} {Hs Rest : List HP} {w : World}
theorem _root_.Go.VC.Sat.allTru {Hs : List HP} : ∀ {R : Cx}, Sat R Hs w → Sat R [VC.tru] w := by
  induction Hs with
  | nil => exact fun h => h.tru
  | cons A Hs ih => exact fun h => Sat.absorb (h.cons fun _ h => ih h)
theorem _root_.Go.VC.Sat.restTru2 {A : HP} (h : Sat R (A :: Hs) w) : Sat R [A, VC.tru] w := h.cons fun _ h => h.allTru
theorem _root_.Go.VC.MapAt.len {P : Program} {α : Type} [BEq α] [KeyK α] {m : Nat} {es : List (α × Value)} {T ty : TypeId} (hT : P.underlying T = some (.map (P.mapKeyOf T) (P.mapElemOf T))) (hw : Sat R (MapAt m es :: Hs) w) :
    (Builtin.len_ #[T] ty #[.map (some m)]).run P w = .ok (.int .i64 es.length) w := by
  obtain ⟨l, c, hs, hst, hp⟩ := MapAt.iff.1 hw
  rw [run_len_map w T ty m _ c hT hp.at]
  subst hs
  simp [goInt, strip]
abbrev small (l : List Int) : Prop := ∀ x ∈ l, 0 ≤ x ∧ x < 9223372036854775808
structure HSmall (h : Hold) : Prop where
  o : 0 ≤ h.owner ∧ h.owner < 9223372036854775808
  c : 0 ≤ h.cls ∧ h.cls < 9223372036854775808
  m : 0 ≤ h.many ∧ h.many < 9223372036854775808
  s : small h.seats
  n : h.seats.length ≤ 1000
end Go.Proofs.YtfgbbckfikiomaaGreatDoor
/- Reference 15's flight in memory: opened, closed; place, Sold, taken, Left, Labels. Condition: bounds. -/
namespace Go.Proofs.YtfgbbckfikiomaaGreatDoor
set_option linter.unusedVariables false
open Go Go.VC
variable {R R' : Cx} {Hs Rest : List HP} {w : World}
def SeatsAt (L : List Hold) (ts : List Sl) : HP := Star (seatsH L ts)
structure RX where
  sg : Sl
  sl : Sl
  s : Sl
  ts : List Sl
def RFAt (q : Nat) (r : RF) : HP := exs fun x : RX =>
  Star [pur (x.ts.length = r.L.length), Reads x.sg (intsI r.grps), Reads x.sl (intsI r.lims), pts q (rCells r x.sg x.sl x.s), OwnN 4 x.s 176 (rowsH r.L x.ts), SeatsAt r.L x.ts]
abbrev RO (q : Nat) (r : RF) (sg sl s : Sl) (ts : List Sl) (Hs : List HP) : List HP := Reads sg (intsI r.grps) :: Reads sl (intsI r.lims) :: pts q (rCells r sg sl s) :: OwnN 4 s 176 (rowsH r.L ts) :: SeatsAt r.L ts :: Hs
theorem seats_out : ∀ {L : List Hold} {ts : List Sl} {R : Cx}, ts.length = L.length → Sat R (seatsH L ts ++ Hs) w → ∃ R' : Cx, R.Ext R' ∧ (∀ i (h : i < L.length) (h' : i < ts.length), SlR R'.m ts[i] (intsI L[i].seats)) ∧ Sat R' Hs w ∧ ∀ Hs' w', Sat R' Hs' w' → Sat R (seatsH L ts ++ Hs') w'
  | [], _, R, _, hw => ⟨R, Cx.Ext.refl, fun i h => by simp at h, by simpa [seatsH] using hw, fun Hs' w' h => by simpa [seatsH] using h⟩
  | h :: L, [], R, hl, _ => by simp at hl
  | h :: L, t :: ts, R, hl, hw => by
    have hw : Sat R (Reads t (intsI h.seats) :: (seatsH L ts ++ Hs)) w := hw
    obtain ⟨R1, e1, s1, hw, b1⟩ := Reads.out hw
    obtain ⟨R2, e2, s2, hw, b2⟩ := seats_out (by simpa using hl) hw
    refine ⟨R2, e1.trans e2, fun i h h' => ?_, hw, fun Hs' w' h => b1 _ _ (b2 _ _ h)⟩
    rcases i with _ | i
    · exact e2.slR s1
    · exact s2 i (by simpa using h) (by simpa using h')
structure RfR (R : Cx) (r : RF) (sg sl s : Sl) (ts : List Sl) : Prop where
  grps : SlR R.m sg (intsI r.grps)
  lims : SlR R.m sl (intsI r.lims)
  hs : HsR R s r.L ts
  cap : s.len ≤ s.cap
theorem RfR.ext {r : RF} {sg sl s : Sl} {ts : List Sl} (h : RfR R r sg sl s ts) (e : R.Ext R') : RfR R' r sg sl s ts :=
  ⟨e.slR h.grps, e.slR h.lims, ⟨h.hs.len, e.roN h.hs.rows, fun i a b => e.slR (h.hs.seats i a b)⟩, h.cap⟩
theorem RfR.len {r : RF} {sg sl s : Sl} {ts : List Sl} (h : RfR R r sg sl s ts) : s.len = r.L.length := by
  have := h.hs.rows.len
  rwa [rowsH_len h.hs.len] at this
theorem RO.out {q : Nat} {r : RF} {sg sl s : Sl} {ts : List Sl} (hl : ts.length = r.L.length) (hw : Sat R (RO q r sg sl s ts Hs) w) : ∃ R', R.Ext R' ∧ RfR R' r sg sl s ts ∧ Sat R' (pts q (rCells r sg sl s) :: Hs) w ∧ ∀ Hs' w', Sat R' (pts q (rCells r sg sl s) :: Hs') w' → Sat R (RO q r sg sl s ts Hs') w' := by
  obtain ⟨R1, e1, g1, hw, b1⟩ := Reads.out hw
  obtain ⟨R2, e2, g2, hw, b2⟩ := Reads.out hw
  have hw : Sat R2 (OwnN 4 s 176 (rowsH r.L ts) :: SeatsAt r.L ts :: pts q (rCells r sg sl s) :: Hs) w := hw.arr
  have hc := OwnN.cap (by omega) hw
  obtain ⟨R3, g3, ⟨x, hx⟩, hw, b3⟩ := OwnN.lend hw
  have e3 : R2.Ext R3 := by rw [hx]; exact Cx.Ext.add
  obtain ⟨R4, e4, g4, hw, b4⟩ := seats_out hl (Sat.star.1 hw)
  refine ⟨R4, e1.trans (e2.trans (e3.trans e4)), ⟨e4.slR (e3.slR (e2.slR g1)), e4.slR (e3.slR g2), ⟨hl, e4.roN g3, g4⟩, hc⟩, hw, fun Hs' w' h => b1 _ _ (b2 _ _ ?_)⟩
  have h1 : Sat R2 (OwnN 4 s 176 (rowsH r.L ts) :: SeatsAt r.L ts :: pts q (rCells r sg sl s) :: Hs') w' := b3 (Sat.star.2 (b4 _ _ h))
  exact h1.arr
structure HCls (n : Nat) (h : Hold) : Prop where
  c : 0 ≤ h.cls ∧ h.cls < n
  m : 0 ≤ h.many ∧ h.many ≤ 10000
end Go.Proofs.YtfgbbckfikiomaaGreatDoor
/- A flight, plain: each step of the program's goes with the document's; what holds of a flight holds on. Condition: none. -/
namespace Go.Proofs.YtfgbbckfikiomaaGreatDoor
set_option linter.unusedVariables false
open Go Go.VC
section
variable {β : Type}
theorem getM_cons (k : Int) (e : Int × β) (l : List (Int × β)) : getM k (e :: l) = if k = e.1 then some e.2 else getM k l := by
  show (if k == e.1 then some e.2 else getM k l) = _
  by_cases h : k = e.1
  · rw [if_pos h, if_pos (beq_iff_eq.2 h)]
  · rw [if_neg h, if_neg (fun h' => h (beq_iff_eq.1 h'))]
theorem getM_mem {k : Int} : ∀ {l : List (Int × β)}, (getM k l).isSome = true ↔ k ∈ l.map (·.1)
  | [] => by simp [getM]
  | e :: l => by
    rw [getM_cons, List.map_cons, List.mem_cons]
    split
    · rename_i h; simp [h]
    · rename_i h; rw [getM_mem (l := l)]; simp [h]
end
theorem fromN_add {sold : List Int} {c : Nat} {m : Int} (hc : c < sold.length) : ∀ (t k : Nat), k + t = sold.length → fromN (sold.set c (sold.getD c 0 + m)) k = fromN sold k + (if k ≤ c then m else 0)
  | 0, k, h => by
    rw [fromN_end (by rw [List.length_set]; omega), fromN_end (by omega), if_neg (by omega)]; rfl
  | t + 1, k, h => by
    have ih := fromN_add (m := m) hc t (k + 1) (by omega)
    rw [fromN_step (k := k) (by rw [List.length_set]; omega), fromN_step (sold := sold) (k := k) (by omega), ih, List.getElem_set]
    by_cases e : c = k
    · subst e
      rw [if_pos rfl, if_neg (by omega), if_pos (Nat.le_refl _), getD_lt hc]; omega
    · rw [if_neg e]
      by_cases h2 : k ≤ c
      · rw [if_pos (by omega), if_pos h2]; omega
      · rw [if_neg (by omega), if_neg h2]; omega
def totL : List Hold → Int
  | [] => 0
  | h :: L => h.many + totL L
theorem soldL_nil (n : Nat) : soldL n [] = List.replicate n 0 := by
  apply List.ext_getElem
  · simp [soldL]
  · intro i h1 h2; rw [soldL_get]; simp [cntL]
theorem fromN_zero (n : Nat) : ∀ t k : Nat, k + t = n → fromN (List.replicate n (0 : Int)) k = 0
  | 0, k, h => fromN_end (by rw [List.length_replicate]; omega)
  | t + 1, k, h => by rw [fromN_step (by rw [List.length_replicate]; omega), fromN_zero n t (k + 1) (by omega)]; simp
theorem totL_from {n : Nat} : ∀ {L : List Hold}, (∀ h ∈ L, 0 ≤ h.cls ∧ h.cls < n) → fromN (soldL n L) 0 = totL L
  | [], _ => by rw [soldL_nil, fromN_zero n n 0 (by omega)]; rfl
  | h :: L, hc => by
    have h0 := hc h List.mem_cons_self
    have ih := totL_from fun x hx => hc x (List.mem_cons_of_mem _ hx)
    rw [← soldL_put (List.Perm.refl (h :: L)) h0.1 h0.2, fromN_add (by rw [soldL_len]; omega) n 0 (by rw [soldL_len]; omega), if_pos (by omega), ih]
    show _ = h.many + totL L
    omega
theorem nest_zero {lim : List Int} (h : limOk lim = true) : nestOk lim (List.replicate lim.length 0) = true := by
  refine nestOk_iff.2 ⟨h, by simp, fun k hk => ?_⟩
  rw [fromN_zero lim.length (lim.length - k) k (by omega), List.getD_eq_getElem?_getD]
  have := (limOk_iff.1 h).2 k hk
  rw [getD_lt hk]
  simp [hk]
  omega
variable {f : PF} {r : RF}
end Go.Proofs.YtfgbbckfikiomaaGreatDoor
/- A flight, plain: Auto; its state. Condition: none. -/
namespace Go.Proofs.YtfgbbckfikiomaaGreatDoor
set_option linter.unusedVariables false
open Go Go.VC
variable {f : PF} {r : RF}
theorem Good.tot (g : Good r) : totL r.L ≤ layN r.rows r.grps := by
  rw [← totL_from (n := r.lims.length) fun h hh => (g.each h hh).cls, ← g.l0]
  have hl := (limOk_iff.1 (nestOk_iff.1 g.nest).1).1.1
  exact ((nestOk_iff.1 g.nest).2.2 0 (by omega)).2
theorem len_tot : ∀ {L : List Hold}, (∀ h ∈ L, 1 ≤ h.many) → (L.length : Int) ≤ totL L ∧ ∀ h ∈ L, h.many ≤ totL L
  | [], _ => ⟨Int.le_refl _, by simp⟩
  | h :: L, hm => by
    obtain ⟨i1, i2⟩ := len_tot fun x hx => hm x (List.mem_cons_of_mem _ hx)
    have h1 := hm h List.mem_cons_self
    have e : totL (h :: L) = h.many + totL L := rfl
    rw [e, List.length_cons]
    refine ⟨by omega, fun x hx => ?_⟩
    rcases List.mem_cons.1 hx with rfl | hx
    · omega
    · have := i2 x hx; omega
theorem Good.len (g : Good r) : (r.L.length : Int) ≤ 600 ∧ ∀ h ∈ r.L, h.many ≤ 600 := by
  obtain ⟨h1, h2⟩ := len_tot fun h hh => (g.each h hh).many
  have h3 := g.tot
  have h4 := (layN_bd r.rows r.grps).2
  exact ⟨by omega, fun h hh => by have := h2 h hh; omega⟩
theorem tie_left (t : Tie f r) : leftsF f = rleftsF r := by
  unfold leftsF rleftsF
  rw [t.lims, t.sold]
theorem Tie.mem (t : Tie f r) {e : Int × Hold} (he : e ∈ f.hs) : e.2 ∈ r.L := t.hs.mem_iff.1 (List.mem_map.2 ⟨e, he, rfl⟩)
theorem Tie.ownIn (t : Tie f r) (g : Good r) : ∀ k ∈ f.own.map (·.1), 0 ≤ k ∧ k < layN r.rows r.grps := fun k hk => by
  obtain ⟨o, ho⟩ := Option.isSome_iff_exists.1 (getM_mem.2 hk)
  obtain ⟨h, hh, _, hs⟩ := (t.own k o).1 ho
  exact (g.each h hh).seats k hs
theorem nodup_bd : ∀ (N : Nat) {l : List Int}, l.Nodup → (∀ x ∈ l, 0 ≤ x ∧ x < N) → l.length ≤ N
  | 0, [], _, _ => Nat.le_refl _
  | 0, x :: l, _, hb => by have := hb x List.mem_cons_self; omega
  | N + 1, l, h, hb => by
    by_cases hm : (N : Int) ∈ l
    · have h1 := nodup_bd N (h.erase (N : Int)) fun x hx => by
        have h2 := (h.mem_erase_iff).1 hx
        have := hb x h2.2
        have := h2.1
        omega
      rw [List.length_erase_of_mem hm] at h1
      omega
    · have h1 := nodup_bd N h fun x hx => by
        have := hb x hx
        have : x ≠ N := fun e => hm (by rw [← e]; exact hx)
        omega
      omega
theorem Tie.bounds (t : Tie f r) (g : Good r) : f.hs.length ≤ 600 ∧ f.own.length ≤ 600 ∧ f.lims.length ≤ 8 ∧ f.sold.length ≤ 8 ∧ f.grps.length ≤ 4 ∧ (∀ e ∈ f.hs, Rise e.2.seats ∧ e.2.seats.length ≤ 600) ∧ (∀ k ∈ f.hs.map (·.1), 1 ≤ k ∧ k ≤ 28629151) := by
  have hl := g.len
  have h1 := t.hs.length_eq
  rw [List.length_map] at h1
  have h2 := nodup_bd (layN r.rows r.grps).toNat t.nod fun x hx => by have := t.ownIn g x hx; omega
  rw [List.length_map] at h2
  have h3 := layN_bd r.rows r.grps
  have h4 := (limOk_iff.1 (nestOk_iff.1 g.nest).1).1.2
  have h5 := (layOk_iff.1 g.lay).1
  refine ⟨by omega, by omega, by rw [t.lims]; exact h4, by rw [t.sold]; show (soldL _ _).length ≤ 8; rw [soldL_len]; exact h4, by rw [t.grps]; omega, fun e he => ?_, fun k hk => ?_⟩
  · have hh := g.each _ (t.mem he)
    have := hl.2 _ (t.mem he)
    exact ⟨hh.rise, by have := hh.few; omega⟩
  · obtain ⟨e, he, rfl⟩ := List.mem_map.1 hk
    have hh := g.each _ (t.mem he)
    have := hh.owner
    rw [t.key e he] at this; exact this
def rnewF (num rows : Int) (grps lims : List Int) : RF := ⟨num, rows, grps, lims, []⟩
theorem good_new {num rows : Int} {grps : List Int} {parts : List Nat} (h : newOk num rows grps parts) : Good (rnewF num rows grps (limitsT (layN rows grps) parts).1) := by
  obtain ⟨h1, h2, h3, h4⟩ := h
  obtain ⟨l1, l2⟩ := limits_ok h4
  refine ⟨⟨h1, h2⟩, h3, ?_, l2, List.Pairwise.nil, fun h hh => (by cases hh), List.Pairwise.nil⟩
  show nestOk _ (soldL _ []) = true
  rw [soldL_nil]; exact nest_zero l1
theorem tie_new {num rows : Int} {grps lims : List Int} : Tie (emptyF num rows grps lims) (rnewF num rows grps lims) := by
  refine ⟨rfl, rfl, rfl, rfl, ?_, List.Perm.refl _, fun e he => (by cases he), fun n o => ?_, List.nodup_nil⟩
  · show List.replicate _ 0 = soldL _ []
    rw [soldL_nil]; rfl
  · constructor
    · intro h; cases h
    · rintro ⟨h, hh, _⟩; cases hh
end Go.Proofs.YtfgbbckfikiomaaGreatDoor
/- Reference 15: New, Take, Give, Seat, Unseat, Auto. Condition: bounds. -/
namespace Go.Proofs.YtfgbbckfikiomaaGreatDoor
set_option linter.unusedVariables false
open Go Go.VC
variable {R R' : Cx} {Hs Rest : List HP} {w : World}
section
variable {γ : Type} (f : Hold × Sl → γ)
theorem zipm_ins (h : Hold) (t : Sl) : ∀ (k : Nat) (L : List Hold) (ts : List Sl), ts.length = L.length → k ≤ L.length → ((L.take k ++ h :: L.drop k).zip (ts.take k ++ t :: ts.drop k)).map f = ((L.zip ts).map f).take k ++ f (h, t) :: ((L.zip ts).map f).drop k
  | 0, L, ts, _, _ => by simp
  | k + 1, [], ts, _, hk => by simp at hk
  | k + 1, x :: L, [], hl, _ => by simp at hl
  | k + 1, x :: L, y :: ts, hl, hk => by
    have ih := zipm_ins h t k L ts (by simpa using hl) (by simpa using hk)
    simp only [List.take_succ_cons, List.drop_succ_cons, List.cons_append, List.zip_cons_cons, List.map_cons, ih]
theorem zipm_del : ∀ (k : Nat) (L : List Hold) (ts : List Sl), ts.length = L.length → k < L.length → ((L.take k ++ L.drop (k + 1)).zip (ts.take k ++ ts.drop (k + 1))).map f = ((L.zip ts).map f).take k ++ ((L.zip ts).map f).drop (k + 1)
  | k, [], ts, _, hk => by simp at hk
  | k, x :: L, [], hl, _ => by simp at hl
  | 0, x :: L, y :: ts, _, _ => by simp
  | k + 1, x :: L, y :: ts, hl, hk => by
    have ih := zipm_del k L ts (by simpa using hl) (by simpa using hk)
    simp only [List.take_succ_cons, List.drop_succ_cons, List.cons_append, List.zip_cons_cons, List.map_cons, ih]
theorem zipm_set (h : Hold) (t : Sl) : ∀ (k : Nat) (L : List Hold) (ts : List Sl), ((L.set k h).zip (ts.set k t)) = (L.zip ts).set k (h, t)
  | k, [], ts => by simp
  | k, x :: L, [] => by simp
  | 0, x :: L, y :: ts => by simp
  | k + 1, x :: L, y :: ts => by
    have ih := zipm_set h t k L ts
    simp only [List.set_cons_succ, List.zip_cons_cons, ih]
end
theorem SeatsAt.ins {L : List Hold} {ts : List Sl} {k : Nat} {h : Hold} {t : Sl} (hl : ts.length = L.length) (hk : k ≤ L.length) (hw : Sat R (Reads t (intsI h.seats) :: SeatsAt L ts :: Hs) w) : Sat R (SeatsAt (L.take k ++ h :: L.drop k) (ts.take k ++ t :: ts.drop k) :: Hs) w := by
  refine Sat.star.2 ?_
  rw [show seatsH (L.take k ++ h :: L.drop k) (ts.take k ++ t :: ts.drop k) = (seatsH L ts).take k ++ Reads t (intsI h.seats) :: (seatsH L ts).drop k from zipm_ins (fun x => Reads x.2 (intsI x.1.seats)) h t k L ts hl hk]
  have hw : Sat R (Reads t (intsI h.seats) :: (seatsH L ts ++ Hs)) w := hw.cons fun _ h => Sat.star.1 h
  refine hw.perm ?_
  rw [List.append_assoc, List.cons_append]
  refine (List.Perm.trans ?_ List.perm_middle.symm)
  rw [← List.append_assoc, List.take_append_drop]
theorem SeatsAt.pick {L : List Hold} {ts : List Sl} {k : Nat} (hk : k < L.length) (hk' : k < ts.length) (hw : Sat R (SeatsAt L ts :: Hs) w) : Sat R (Reads ts[k] (intsI L[k].seats) :: ((seatsH L ts).take k ++ (seatsH L ts).drop (k + 1) ++ Hs)) w := by
  have hw := Sat.star.1 hw
  have hlt : k < (seatsH L ts).length := by simp [seatsH]; omega
  have e : seatsH L ts = (seatsH L ts).take k ++ Reads ts[k] (intsI L[k].seats) :: (seatsH L ts).drop (k + 1) := by
    have h1 : (seatsH L ts)[k] = Reads ts[k] (intsI L[k].seats) := by simp [seatsH]
    rw [← h1, ← List.drop_eq_getElem_cons hlt, List.take_append_drop]
  rw [e, List.append_assoc, List.cons_append] at hw
  rw [List.append_assoc]
  exact hw.perm List.perm_middle
theorem SeatsAt.del {L : List Hold} {ts : List Sl} {k : Nat} (hl : ts.length = L.length) (hk : k < L.length) (hw : Sat R (SeatsAt L ts :: Hs) w) : Sat R (SeatsAt (L.take k ++ L.drop (k + 1)) (ts.take k ++ ts.drop (k + 1)) :: Hs) w := by
  have hw := (SeatsAt.pick hk (by omega) hw).drop
  refine Sat.star.2 ?_
  rw [show seatsH (L.take k ++ L.drop (k + 1)) (ts.take k ++ ts.drop (k + 1)) = (seatsH L ts).take k ++ (seatsH L ts).drop (k + 1) from zipm_del (fun x => Reads x.2 (intsI x.1.seats)) k L ts hl hk]
  exact hw
theorem SeatsAt.set {L : List Hold} {ts : List Sl} {k : Nat} {h : Hold} {t : Sl} (hl : ts.length = L.length) (hk : k < L.length) (hw : Sat R (Reads t (intsI h.seats) :: SeatsAt L ts :: Hs) w) : Sat R (SeatsAt (L.set k h) (ts.set k t) :: Hs) w := by
  have hw : Sat R (Reads t (intsI h.seats) :: ((seatsH L ts).take k ++ (seatsH L ts).drop (k + 1) ++ Hs)) w := hw.cons fun _ h5 => (SeatsAt.pick hk (by omega) h5).drop
  refine Sat.star.2 ?_
  have hlt : k < (seatsH L ts).length := by simp [seatsH]; omega
  rw [show seatsH (L.set k h) (ts.set k t) = (seatsH L ts).take k ++ Reads t (intsI h.seats) :: (seatsH L ts).drop (k + 1) by
    unfold seatsH at hlt ⊢
    rw [zipm_set, List.map_set, List.set_eq_take_append_cons_drop, if_pos hlt]]
  refine hw.perm ?_
  rw [List.append_assoc, List.append_assoc, List.cons_append]
  exact List.perm_middle.symm
theorem RfR.row {A C : List Hold} {hd : Hold} {r : RF} {sg sl s : Sl} {ts : List Sl} (h : RfR R r sg sl s ts) (hL : r.L = A ++ hd :: C) : ∃ (t : Sl) (ht : A.length < ts.length), ts[A.length] = t ∧ SlR R.m t (intsI hd.seats) ∧
    ∀ {S : World → Prop} {Hs : List HP} {i : Nat} {v : Value}, (∀ w, S w → Sat R Hs w) → (rowH hd t)[i]? = some v → ∀ {F : Addr → Prop}, (∀ a : Addr, a.spot = none → At S ⟨(a.add (mulS A.length 4)).block, (a.add (mulS A.length 4)).off + i, none⟩ [v] → F a) → Rng (A.length : Int) s.len (NilP s.a F) := by
  have hl := h.hs.len
  have i1 : A.length < r.L.length := by rw [hL]; simp
  have i2 : A.length < ts.length := by omega
  have hgi : r.L[A.length] = hd := by simp [hL]
  have hsd := h.hs.seats A.length i1 i2
  rw [hgi] at hsd
  exact ⟨_, i2, rfl, hsd, fun {S Hs i v} hS hv {F} f => h.hs.fld hS i1 i2 (by rw [hgi]; exact hv) f⟩
end Go.Proofs.YtfgbbckfikiomaaGreatDoor
/- A flight: Encode. Condition: bounds on lengths. -/
namespace Go.Proofs.YtfgbbckfikiomaaGreatDoor
set_option linter.unusedVariables false
open Go Go.VC
variable {R : Cx} {Hs Rest : List HP} {w : World}
theorem HsR.row {s : Sl} {L : List Hold} {ts : List Sl} {S : World → Prop} {k : Nat} (hr : HsR R s L ts) (hS : ∀ w, S w → Sat R Hs w) (hk : k < L.length) (hk' : k < ts.length) {F : Addr → Prop}
    (f : ∀ a : Addr, At S (Addr.add a (mulS k 4)) (rowH L[k] ts[k]) → F a) : Rng (k : Int) s.len (NilP s.a F) := by
  have hl := rowsH_len hr.len
  refine (hr.rows.reads hS).rng (k := k) (by omega) fun b off ha hat => f _ ?_
  rw [elt_addr0]
  refine hat 0 _ ?_
  rw [rowsH_at hk hk']
  exact ⟨rfl, rfl, rfl, rfl, trivial⟩
structure FSmall (f : PF) : Prop where
  num : 0 ≤ f.num ∧ f.num < 9223372036854775808
  rows : 0 ≤ f.rows ∧ f.rows < 9223372036854775808
  grps : small f.grps
  lims : small f.lims
  gl : f.grps.length ≤ 1000
  ll : f.lims.length ≤ 1000
  hs : ∀ h ∈ holdsF f, HSmall h
  hl : f.hs.length ≤ 10000
end Go.Proofs.YtfgbbckfikiomaaGreatDoor
/- A flight out of bytes: reading numbers and lists; a hold put in again. Condition: bounds on lengths. -/
namespace Go.Proofs.YtfgbbckfikiomaaGreatDoor
set_option linter.unusedVariables false
open Go Go.VC
variable {R : Cx} {Hs Rest : List HP} {w : World}
def tellF (f : PF) (o n : Int) : PF :=
  match getM o f.hs with
  | none => f
  | some h => { f with hs := setM o (h.put n) f.hs, own := putM n h.owner f.own }
def resGo (o N : Int) : List Int → Int → PF → PF × Bool
  | [], _, f => (f, true)
  | n :: l, last, f => if (getM n f.own).isSome then (f, false) else if n ≤ last then (f, false) else if n ≥ N then (f, false) else resGo o N l n (tellF f o n)
def restoreF (f : PF) (h : Hold) : PF × Bool :=
  if (takeF f h.owner h.cls h.many).2 ≠ 0 then ((takeF f h.owner h.cls h.many).1, false)
  else if (h.seats.length : Int) > h.many then ((takeF f h.owner h.cls h.many).1, false)
  else resGo h.owner (layN f.rows f.grps) h.seats (-1) (takeF f h.owner h.cls h.many).1
end Go.Proofs.YtfgbbckfikiomaaGreatDoor
/- A flight: Decode. Condition: bounds on lengths. -/
namespace Go.Proofs.YtfgbbckfikiomaaGreatDoor
set_option linter.unusedVariables false
open Go Go.VC
variable {R : Cx} {Hs Rest : List HP} {w : World}
structure HoldIn (h : Hold) : Prop where
  o : 0 ≤ h.owner ∧ h.owner ≤ 28629151
  c : 0 ≤ h.cls ∧ h.cls ≤ 8
  m : 0 ≤ h.many ∧ h.many ≤ 600
  s : ∀ x ∈ h.seats, 0 ≤ x ∧ x ≤ 600
  n : h.seats.length ≤ 600
abbrev PS := PF × Bool × Int
def stepD (x : PS) (h : Hold) : PS := if x.2.1 = true ∧ h.owner > x.2.2 then ((restoreF x.1 h).1, (restoreF x.1 h).2, h.owner) else (x.1, false, h.owner)
def fine0 (num rows : Int) (grps lims : List Int) : Bool := decide (num > 0) && (layOk rows grps && (nestOk lims (List.replicate lims.length 0) && (lims.getD 0 0 == layN rows grps)))
structure Raw where
  num : Int
  rows : Int
  grps : List Int
  lims : List Int
  L : List Hold
  rd : Rd
def Raw.run (x : Raw) : PS := x.L.foldl stepD (emptyF x.num x.rows x.grps x.lims, fine0 x.num x.rows x.grps x.lims, 0)
structure KeepF (f f' : PF) : Prop where
  lims : f'.lims = f.lims
  grps : f'.grps = f.grps
  rows : f'.rows = f.rows
  num : f'.num = f.num
  sold : f'.sold.length = f.sold.length
theorem KeepF.refl (f : PF) : KeepF f f := ⟨rfl, rfl, rfl, rfl, rfl⟩
theorem KeepF.trans {f f' f'' : PF} (a : KeepF f f') (b : KeepF f' f'') : KeepF f f'' := ⟨b.lims.trans a.lims, b.grps.trans a.grps, b.rows.trans a.rows, b.num.trans a.num, b.sold.trans a.sold⟩
end Go.Proofs.YtfgbbckfikiomaaGreatDoor
/- Reference 15: Encode, list, may, Decode. Condition: bounds. -/
namespace Go.Proofs.YtfgbbckfikiomaaGreatDoor
set_option linter.unusedVariables false
open Go Go.VC
variable {R R' : Cx} {Hs Rest : List HP} {w : World}
theorem numsB_one (x : Int) (l : List Int) : numsB (x :: l) = numsB [x] ++ numsB l := by rw [show x :: l = [x] ++ l from rfl, numsB_app]
structure RSmall (r : RF) : Prop where
  num : 0 ≤ r.num ∧ r.num < 9223372036854775808
  rows : 0 ≤ r.rows ∧ r.rows < 9223372036854775808
  grps : small r.grps
  lims : small r.lims
  gl : r.grps.length ≤ 1000
  ll : r.lims.length ≤ 1000
  hs : ∀ h ∈ r.L, HSmall h
  hl : r.L.length ≤ 10000
end Go.Proofs.YtfgbbckfikiomaaGreatDoor
/- Reference 15: list, may, Decode. Condition: bounds. -/
namespace Go.Proofs.YtfgbbckfikiomaaGreatDoor
set_option linter.unusedVariables false
open Go Go.VC
variable {R R' : Cx} {Hs Rest : List HP} {w : World}
structure OkAt (r : RF) (j : Nat) (hj : j < r.L.length) : Prop where
  o : 1 ≤ r.L[j].owner
  p : ∀ h : 0 < j, r.L[j - 1].owner < r.L[j].owner
  c : r.L[j].cls < r.lims.length
  m : 1 ≤ r.L[j].many
  n : (r.L[j].seats.length : Int) ≤ r.L[j].many
  s : ∀ k (hk : k < r.L[j].seats.length), r.L[j].seats[k] ∉ takenL (r.L.take j) ++ r.L[j].seats.take k ∧ r.L[j].seats[k] < layN r.rows r.grps ∧ ∀ h : 0 < k, r.L[j].seats[k - 1] < r.L[j].seats[k]
structure MayP (r : RF) : Prop where
  num : 1 ≤ r.num
  lay : layOk r.rows r.grps = true
  lim : limOk r.lims = true
  l0 : r.lims.getD 0 0 = layN r.rows r.grps
  each : ∀ j (hj : j < r.L.length), OkAt r j hj
  nest : nestOk r.lims r.sold = true
structure RIn (r : RF) : Prop where
  gl : r.grps.length ≤ 1000
  ll : r.lims.length ≤ 1000
  hl : r.L.length ≤ 1000
  hs : ∀ h ∈ r.L, HoldIn h
end Go.Proofs.YtfgbbckfikiomaaGreatDoor

/- A flight, plain: which bytes are one, by the program and by the document. Condition: none. -/
namespace Go.Proofs.YtfgbbckfikiomaaGreatDoor
set_option linter.unusedVariables false
open Go Go.VC
variable {f : PF} {r : RF}
def SOk (N : Int) (T : List Int) : List Int → Int → Prop
  | [], _ => True
  | n :: l, last => n ∉ T ∧ last < n ∧ n < N ∧ SOk N T l n
structure AddOk (r : RF) (h : Hold) : Prop where
  c : h.cls < r.lims.length
  m : 1 ≤ h.many
  n : (h.seats.length : Int) ≤ h.many
  s : SOk (layN r.rows r.grps) (takenL r.L) h.seats (-1)
  nest : nestOk r.lims (soldL r.lims.length (r.L ++ [h])) = true
structure RawIn (x : Raw) : Prop where
  num : x.num ≤ 9999
  hs : ∀ h ∈ x.L, HoldIn h
def Raw.at (x : Raw) (j : Nat) : PS := (x.L.take j).foldl stepD (emptyF x.num x.rows x.grps x.lims, fine0 x.num x.rows x.grps x.lims, 0)
def Raw.pre (x : Raw) (j : Nat) : RF := ⟨x.num, x.rows, x.grps, x.lims, x.L.take j⟩
end Go.Proofs.YtfgbbckfikiomaaGreatDoor

/- Package field: bytes with their length; a reader's Text. Condition: bounds on lengths. -/
namespace Go.Proofs.YtfgbbckfikiomaaGreatDoor
set_option linter.unusedVariables false
open Go Go.VC
variable {R : Cx} {Hs Rest : List HP} {w : World}
theorem ftext_spec {s : Sl} {bs : List Int} (hs : Ro R s (b8 bs)) (hl : bs.length ≤ 1099511627776) (hw : Sat R Hs w) :
    Gets Tryz.prog 124 #[.slice s.a s.len s.cap] w fun v w' => ∃ t : Sl, v = .slice t.a t.len t.cap ∧ Sat R (Own t 5 (b8 (textB bs)) :: Hs) w' := by
  have hlen : s.len = bs.length := by have := hs.len; simpa using this
  apply call124
  unfold B124
  rw [wrapU64 (by omega) (by omega), hlen]
  refine (number_spec (by omega) hw).use ?_
  rintro _ w ⟨t, rfl, hw⟩
  refine ⟨t, rfl, ?_⟩
  rw [← hlen]
  have hn := numB_len (n := bs.length) (by omega)
  have hsrc : Src Tryz.prog 1 42 (.slice s.a s.len s.cap) bs.length (b8 bs) w := by
    have := srcRo Tryz.underlying42 hw hs (one_b8 _)
    simpa using this
  refine append_rule elB8 (s := t) hw hsrc (one_b8 _) (by rw [List.length_map]; omega) (by rw [List.length_map]; omega) fun s2 w hw => ?_
  exact ⟨s2, rfl, by simpa [b8, textB] using hw⟩
theorem text1_spec {h : Heap} {l bm bo : Nat} {s : Sl} {bs : List Int} {most : Int} (hm : most < 9223372036854775808) (hl : bs.length ≤ 1099511627776) (hb : ∀ x ∈ bs, 0 ≤ x ∧ x < 256) (hsub : ∀ b o, h b = some o → R.m b = some o) (hr : SlR h s (b8 bs))
    (hw : Sat R (lp l s :: lp bo ⟨none, 0, 0⟩ :: pts bm (.cells [.int .i64 most].toArray 3 (0, 0)) :: Hs) w) :
    GetsX Tryz.prog 165 #[.pointer (some ⟨l, 0, none⟩), .pointer (some ⟨bm, 0, none⟩), .pointer (some ⟨bo, 0, none⟩)] w
      (fun ch w' => ch = amissP ∧ (∀ n k, parse bs = some (n, false, k) → ¬ (0 ≤ most ∧ n ≤ most ∧ n ≤ (bs.length : Int) - k)) ∧ ∃ s', Sat R (lp l s' :: lp bo ⟨none, 0, 0⟩ :: pts bm (.cells [.int .i64 most].toArray 3 (0, 0)) :: Hs) w')
      (fun v w' => v = .tuple #[] ∧ ∃ n k s' t, parse bs = some (n, false, k) ∧ (0 ≤ most ∧ n ≤ most ∧ n ≤ (bs.length : Int) - k) ∧ SlR h s' (b8 (bs.drop (k + n.toNat))) ∧
        Sat R (lp l s' :: lp bo t :: Own t 5 (b8 ((bs.drop k).take n.toNat)) :: pts bm (.cells [.int .i64 most].toArray 3 (0, 0)) :: Hs) w') := by
  apply call165
  refine (fsize_spec hb hsub hr hw).use ?_ ?_
  rotate_left
  · rintro _ w ⟨hp, rfl, s', hw⟩
    refine .inr ⟨_, rfl, rfl, ?_, s', hw⟩
    intro n k h; rw [hp] at h; cases h
  rintro _ w ⟨n, neg, k, s', hp, rfl, hs', hw⟩
  obtain ⟨n0, n1, k0, k1, k2⟩ := parse_bd hb hp
  have no : (∀ n' k', parse bs = some (n', false, k') → ¬ (0 ≤ most ∧ n' ≤ most ∧ n' ≤ (bs.length : Int) - k')) → ∀ {A : Prop} {e : Ending}, (e = .panicked amissP) → (e = .returned (.tuple #[]) ∧ A) ∨ ∃ ch, e = .panicked ch ∧ ch = amissP ∧ (∀ n k, parse bs = some (n, false, k) → ¬ (0 ≤ most ∧ n ≤ most ∧ n ≤ (bs.length : Int) - k)) ∧ ∃ s', Sat R (lp l s' :: lp bo ⟨none, 0, 0⟩ :: pts bm (.cells [.int .i64 most].toArray 3 (0, 0)) :: Hs) w := fun h A e he =>
    .inr ⟨_, he, rfl, h, s', hw⟩
  have same : ∀ n' k', parse bs = some (n', false, k') → neg = false ∧ n' = n ∧ k' = k := fun n' k' h => by
    rw [hp] at h
    simp only [Option.some.injEq, Prod.mk.injEq] at h
    exact ⟨h.2.1, h.1.symm, h.2.2.symm⟩
  refine .inl ⟨n, neg, rfl, Br.nb (fun h => ?_) (fun h => ?_)⟩
  rotate_left
  · refine must_c (fun h => by cases h) (fun _ => no (fun n' k' h' => ?_) rfl)
    rw [(same n' k' h').1] at h; cases h
  subst h
  have hw2 : Sat R (pts bm (.cells [.int .i64 most].toArray 3 (0, 0)) :: lp l s' :: lp bo ⟨none, 0, 0⟩ :: Hs) w := hw.arr
  refine NilP.mk rfl ⟨most, At.own (eqS hw2) (by exact ⟨rfl, trivial⟩), Br.d (fun h1 => ?_) (fun h1 => ?_)⟩
  rotate_left
  · refine must_c (fun h => by cases h) (fun _ => no (fun n' k' h' h2 => by omega) rfl)
  refine NilP.mk rfl ⟨most, At.own (eqS hw2) (by exact ⟨rfl, trivial⟩), ?_⟩
  rw [wrapU64 (by omega) (by omega)]
  refine Br.d (fun h2 => ?_) (fun h2 => ?_)
  rotate_left
  · refine must_c (fun h => by cases h) (fun _ => no (fun n' k' h' h3 => by have := (same n' k' h').2.1; omega) rfl)
  have hsl : s'.len = bs.length - k := by have := hs'.len; simpa using this
  refine NilP.mk rfl ⟨s', At.own (eqS hw) (by exact ⟨rfl, trivial⟩), ?_⟩
  rw [wrapU64 (by omega) (by omega), hsl]
  refine must_c (fun h3 => .inl ⟨rfl, ?_⟩) (fun h3 => ?_)
  rotate_left
  · have h3 := of_decide_eq_false h3
    refine no (fun n' k' h' h4 => ?_) rfl
    have := same n' k' h'
    omega
  have h3 := of_decide_eq_true h3
  rw [wrap64 (by omega) (by omega)]
  obtain ⟨m, rfl⟩ := Int.eq_ofNat_of_zero_le n0
  have hm' : SlR R.m s' (b8 (bs.drop k)) := hs'.mono hsub
  refine (take_spec (k := m) hm' hw).use ?_ ?_
  rotate_left
  · rintro _ w ⟨h4, _⟩
    simp at h4; omega
  rintro _ w ⟨_, rfl, hw⟩
  refine .inl ⟨⟨s'.a, m, s'.cap⟩, rfl, ?_⟩
  have ht : SlR R.m ⟨s'.a, m, s'.cap⟩ (b8 ((bs.drop k).take m)) := by
    have := hm'.take (k := m) (by simp; omega)
    rwa [← List.map_take] at this
  refine (clone_spec (s := ⟨s'.a, m, s'.cap⟩) (ht.ro (by simp; omega)) (by simp; omega) hw).use ?_
  rintro _ w ⟨t, rfl, hw⟩
  refine .inl ⟨t, rfl, ?_⟩
  have hw : Sat R (lp bo ⟨none, 0, 0⟩ :: Own t 5 (b8 ((bs.drop k).take m)) :: lp l (sdrop s' m) :: pts bm (.cells [.int .i64 most].toArray 3 (0, 0)) :: Hs) w := hw.arr
  refine store_rule hw (by kernel_rfl) rfl (by simp [Value.cells]) fun w hw => ?_
  have hw := hw.re (lp bo t)
  refine ⟨rfl, m, k, sdrop s' m, t, hp, ⟨by omega, h2, by omega⟩, ?_, ?_⟩
  · have := hs'.drop (k := m) (by simp; omega)
    rw [← List.map_drop, List.drop_drop] at this
    exact this
  · rw [Int.toNat_natCast]; exact hw.arr
theorem rtext_spec {r : Nat} {rd : Rd} {most : Int} (hm : most < 9223372036854775808) (hl : rd.bs.length ≤ 1099511627776) (hb : ∀ x ∈ rd.bs, 0 ≤ x ∧ x < 256) (hw : Sat R (RdAt r rd :: Hs) w) :
    Gets Tryz.prog 102 #[.pointer (some ⟨r, 0, none⟩), .int .i64 most] w fun v w' => ∃ t : Sl, v = .slice t.a t.len t.cap ∧ Sat R (Own t 5 (b8 (rdText most rd).1) :: RdAt r (rdText most rd).2 :: Hs) w' := by
  apply call102
  refine new_rule hw fun bm w hw => new_rule hw fun bo w hw => ?_
  have hw : Sat R (RdAt r rd :: lp bo ⟨none, 0, 0⟩ :: pts bm (.cells [.int .i64 most].toArray 3 (0, 0)) :: Hs) w := by
    have hw : Sat R (lp bo ⟨none, 0, 0⟩ :: pts bm (.cells [.int .i64 most].toArray 3 (0, 0)) :: RdAt r rd :: Hs) w := hw
    exact hw.arr
  refine (reading_spec (α := (Int × Nat) × Sl) (f := fun y => rd.bs.drop (y.1.2 + y.1.1.toNat)) (G := fun y => parse rd.bs = some (y.1.1, false, y.1.2) ∧ (0 ≤ most ∧ y.1.1 ≤ most ∧ y.1.1 ≤ (rd.bs.length : Int) - y.1.2)) (N := ∀ n k, parse rd.bs = some (n, false, k) → ¬ (0 ≤ most ∧ n ≤ most ∧ n ≤ (rd.bs.length : Int) - k))
    (Hs1 := fun y => lp bo y.2 :: Own y.2 5 (b8 ((rd.bs.drop y.1.2).take y.1.1.toNat)) :: pts bm (.cells [.int .i64 most].toArray 3 (0, 0)) :: Hs)
    (Hs2 := lp bo ⟨none, 0, 0⟩ :: pts bm (.cells [.int .i64 most].toArray 3 (0, 0)) :: Hs) hw ?_).use ?_
  · intro _ x l s A B w hsub hs hw
    refine CalW.mk (by kernel_rfl) ?_
    have hw2 : Sat (R.add x) (lp l s :: lp bo ⟨none, 0, 0⟩ :: pts bm (.cells [.int .i64 most].toArray 3 (0, 0)) :: A :: B :: Hs) w := hw.arr
    refine (text1_spec (h := x) hm hl hb hsub hs hw2).use ?_ ?_
    · rintro _ w ⟨rfl, n, k, s', t, hp, hn, hs', hw⟩
      exact .inl ⟨rfl, ((n, k), t), s', ⟨hp, hn⟩, hs', hw.arr⟩
    · rintro _ w ⟨rfl, hn, s', hw⟩
      exact .inr ⟨rfl, hn, s', hw.arr⟩
  · rintro _ w ⟨rfl, h⟩
    refine ⟨rfl, ?_⟩
    rcases h with ⟨hbad, hw⟩ | ⟨hbad, ⟨⟨n, k⟩, t⟩, ⟨hp, hn⟩, hw⟩ | ⟨hbad, hno, hw⟩
    · have hw : Sat R (lp bo ⟨none, 0, 0⟩ :: RdAt r rd :: pts bm (.cells [.int .i64 most].toArray 3 (0, 0)) :: Hs) w := hw.swap
      refine ⟨⟨none, 0, 0⟩, At.own (eqS hw) (by exact ⟨rfl, trivial⟩), ?_⟩
      unfold rdText
      rw [if_pos hbad]
      exact ⟨_, rfl, Own.nil (hw.drop.cons fun _ h => h.drop)⟩
    · have hw : Sat R (lp bo t :: Own t 5 (b8 ((rd.bs.drop k).take n.toNat)) :: RdAt r ⟨rd.bs.drop (k + n.toNat), false⟩ :: pts bm (.cells [.int .i64 most].toArray 3 (0, 0)) :: Hs) w := hw.arr
      refine ⟨t, At.own (eqS hw) (by exact ⟨rfl, trivial⟩), ?_⟩
      unfold rdText
      rw [if_neg (by rw [hbad]; simp), hp]
      simp only
      rw [if_pos ⟨trivial, hn⟩]
      exact ⟨_, rfl, hw.drop.cons fun _ h => h.cons fun _ h => h.drop⟩
    · have hw : Sat R (lp bo ⟨none, 0, 0⟩ :: RdAt r ⟨rd.bs, true⟩ :: pts bm (.cells [.int .i64 most].toArray 3 (0, 0)) :: Hs) w := hw.swap
      refine ⟨⟨none, 0, 0⟩, At.own (eqS hw) (by exact ⟨rfl, trivial⟩), ?_⟩
      have e : rdText most rd = ([], ⟨rd.bs, true⟩) := by
        unfold rdText
        rw [if_neg (by rw [hbad]; simp)]
        cases hp : parse rd.bs with
        | none => rfl
        | some p =>
          obtain ⟨n, neg, k⟩ := p
          simp only
          rw [if_neg]
          rintro ⟨rfl, h⟩
          exact hno n k hp h
      rw [e]
      exact ⟨_, rfl, Own.nil (hw.drop.cons fun _ h => h.drop)⟩
theorem rdText_bd {most : Int} {rd : Rd} (hb : ∀ x ∈ rd.bs, 0 ≤ x ∧ x < 256) : (∀ x ∈ (rdText most rd).1, 0 ≤ x ∧ x < 256) ∧ (∀ x ∈ (rdText most rd).2.bs, 0 ≤ x ∧ x < 256) := by
  unfold rdText
  split
  · exact ⟨by simp, hb⟩
  · split
    · split
      · exact ⟨fun x hx => hb x (List.mem_of_mem_drop (List.mem_of_mem_take hx)), fun x hx => hb x (List.mem_of_mem_drop hx)⟩
      · exact ⟨by simp, hb⟩
    · exact ⟨by simp, hb⟩
theorem rdText_len {most : Int} {rd : Rd} : (rdText most rd).1.length ≤ rd.bs.length ∧ (rdText most rd).2.bs.length ≤ rd.bs.length := by
  unfold rdText
  split
  · simp
  · split
    · split
      · simp; omega
      · simp
    · simp
theorem rdNum_len {most : Int} {rd : Rd} : (rdNum most rd).2.bs.length ≤ rd.bs.length := by
  unfold rdNum
  split
  · simp
  · split
    · split
      · simp
      · simp
    · simp
end Go.Proofs.YtfgbbckfikiomaaGreatDoor
/- Floats, plain, part 4: how any two stand to each other, by one integer each. No program. No condition. -/
namespace Go.VC
set_option linter.unusedVariables false
open Ieee
def bigF : Int := 2 ^ 2200
def valD : Datum → Option Int
  | .nan .. => none
  | .infinity s => some (if s then -bigF else bigF)
  | .number s m i => some (signed s m (i + 1074).toNat)
def kvF (x : Nat) : Int := match valD (double.read x) with | none => -bigF - 1 | some v => v
end Go.VC
/- Who waits, plainly: their order, putting in, taking out, the first that fits. No condition. -/
namespace Go.VC
set_option linter.unusedVariables false
def ofF (k : Nat) : Nat := if 9223372036854775808 ≤ k then k - 9223372036854775808 else 18446744073709551615 - k
theorem of_lt {k : Nat} (h : k < 18446744073709551616) : ofF k < 18446744073709551616 := by
  unfold ofF
  split <;> omega
structure Wt where
  id : Int
  cls : Int
  many : Int
  time : Int
  sc : Nat
deriving DecidableEq
def Wt.Ok (w : Wt) : Prop := (1 ≤ w.id ∧ w.id ≤ 28629151) ∧ (0 ≤ w.cls ∧ w.cls ≤ 7) ∧ (1 ≤ w.many ∧ w.many ≤ 600) ∧ (0 ≤ w.time ∧ w.time ≤ 1099511627776)
instance (w : Wt) : Decidable w.Ok := by unfold Wt.Ok; infer_instance
def Wt.ahead (a b : Wt) : Bool := if kvF a.sc = kvF b.sc then (if a.time = b.time then decide (a.id < b.id) else decide (a.time < b.time)) else decide (kvF b.sc < kvF a.sc)
theorem ahead_iff {a b : Wt} : a.ahead b = true ↔ kvF b.sc < kvF a.sc ∨ kvF a.sc = kvF b.sc ∧ (a.time < b.time ∨ a.time = b.time ∧ a.id < b.id) := by
  unfold Wt.ahead
  split
  · split
    · simp; omega
    · simp; omega
  · simp; omega
theorem ahead_trans {a b c : Wt} (h1 : a.ahead b = true) (h2 : b.ahead c = true) : a.ahead c = true := by
  rw [ahead_iff] at *; omega
theorem ahead_tot {a b : Wt} (h : a.id ≠ b.id) (h1 : a.ahead b = false) : b.ahead a = true := by
  rw [ahead_iff]
  have : ¬ a.ahead b = true := by rw [h1]; simp
  rw [ahead_iff] at this
  omega
def QSt (q : List Wt) : Prop := q.Pairwise fun a b => a.ahead b = true
def QIds (q : List Wt) : Prop := q.Pairwise fun a b => a.id ≠ b.id
structure QOk (q : List Wt) : Prop where
  st : QSt q
  ids : QIds q
  ok : ∀ w ∈ q, w.Ok
  fl : ∀ w ∈ q, w.sc < 18446744073709551616
  len : q.length ≤ 200
theorem QOk.nil : QOk [] := ⟨List.Pairwise.nil, List.Pairwise.nil, fun _ h => (by cases h), fun _ h => (by cases h), by simp⟩
def insQ (w : Wt) (q : List Wt) : List Wt := q.takeWhile (fun a => a.ahead w) ++ w :: q.dropWhile (fun a => a.ahead w)
theorem insQ_cons (w a : Wt) (q : List Wt) : insQ w (a :: q) = if a.ahead w then a :: insQ w q else w :: a :: q := by
  unfold insQ
  rw [List.takeWhile_cons, List.dropWhile_cons]
  split <;> rfl
theorem insQ_mem {w x : Wt} : ∀ {q : List Wt}, x ∈ insQ w q ↔ x = w ∨ x ∈ q
  | [] => by simp [insQ]
  | a :: q => by
    rw [insQ_cons]
    split
    · rw [List.mem_cons, insQ_mem, List.mem_cons]
      constructor
      · rintro (h | h | h) <;> simp [h]
      · rintro (h | h | h) <;> simp [h]
    · rw [List.mem_cons]
theorem insQ_len {w : Wt} : ∀ {q : List Wt}, (insQ w q).length = q.length + 1
  | [] => rfl
  | a :: q => by
    rw [insQ_cons]
    split
    · rw [List.length_cons, insQ_len, List.length_cons]
    · rfl
theorem insQ_st {w : Wt} : ∀ {q : List Wt}, QSt q → (∀ x ∈ q, x.id ≠ w.id) → QSt (insQ w q)
  | [], _, _ => List.Pairwise.cons (fun _ h => (by cases h)) List.Pairwise.nil
  | a :: q, h, hid => by
    have h1 := List.pairwise_cons.1 h
    rw [insQ_cons]
    split
    · rename_i ha
      refine List.Pairwise.cons (fun x hx => ?_) (insQ_st h1.2 fun x hx => hid x (by simp [hx]))
      rcases insQ_mem.1 hx with rfl | hx
      · exact ha
      · exact h1.1 x hx
    · rename_i ha
      have hwa : w.ahead a = true := ahead_tot (hid a (by simp)) (by simpa using ha)
      refine List.Pairwise.cons (fun x hx => ?_) h
      rcases List.mem_cons.1 hx with rfl | hx
      · exact hwa
      · exact ahead_trans hwa (h1.1 x hx)
theorem insQ_ids {w : Wt} : ∀ {q : List Wt}, QIds q → (∀ x ∈ q, x.id ≠ w.id) → QIds (insQ w q)
  | [], _, _ => List.Pairwise.cons (fun _ h => (by cases h)) List.Pairwise.nil
  | a :: q, h, hid => by
    have h1 := List.pairwise_cons.1 h
    rw [insQ_cons]
    split
    · refine List.Pairwise.cons (fun x hx => ?_) (insQ_ids h1.2 fun x hx => hid x (by simp [hx]))
      rcases insQ_mem.1 hx with rfl | hx
      · exact hid a (by simp)
      · exact h1.1 x hx
    · refine List.Pairwise.cons (fun x hx => ?_) h
      exact fun e => hid x hx e.symm
def hasQ (id : Int) (q : List Wt) : Bool := q.any fun w => decide (w.id = id)
def qadd (q : List Wt) (w : Wt) : List Wt × Int :=
  if ¬ w.Ok then (q, 1) else if hasQ w.id q then (q, 7) else if 200 ≤ q.length then (q, 3) else (insQ w q, 0)
def delQ (id : Int) : List Wt → List Wt
  | [] => []
  | w :: q => if w.id = id then q else w :: delQ id q
def qrem (q : List Wt) (id : Int) : List Wt × Int := if hasQ id q then (delQ id q, 0) else (q, 2)
theorem hasQ_no {id : Int} {q : List Wt} : hasQ id q = false ↔ ∀ w ∈ q, w.id ≠ id := by
  unfold hasQ
  simp
theorem delQ_sub {id : Int} : ∀ {q : List Wt}, (delQ id q).Sublist q
  | [] => List.Sublist.refl _
  | w :: q => by
    show (if w.id = id then q else w :: delQ id q).Sublist _
    split
    · exact List.sublist_cons_self _ _
    · exact delQ_sub.cons_cons _
theorem QOk.del {q : List Wt} (h : QOk q) (id : Int) : QOk (delQ id q) :=
  ⟨h.st.sublist delQ_sub, h.ids.sublist delQ_sub, fun w hw => h.ok w (delQ_sub.subset hw), fun w hw => h.fl w (delQ_sub.subset hw), Nat.le_trans delQ_sub.length_le h.len⟩
theorem QOk.rem {q : List Wt} (h : QOk q) (id : Int) : QOk (qrem q id).1 := by
  unfold qrem
  split
  · exact h.del id
  · exact h
theorem QOk.ins {q : List Wt} (h : QOk q) {w : Wt} (hw : w.Ok) (hf : w.sc < 18446744073709551616) (hn : hasQ w.id q = false) (hl : q.length < 200) : QOk (insQ w q) := by
  have hn' := hasQ_no.1 hn
  refine ⟨insQ_st h.st hn', insQ_ids h.ids hn', fun x hx => ?_, fun x hx => ?_, by rw [insQ_len]; omega⟩
  · rcases insQ_mem.1 hx with rfl | hx
    · exact hw
    · exact h.ok x hx
  · rcases insQ_mem.1 hx with rfl | hx
    · exact hf
    · exact h.fl x hx
theorem QOk.add {q : List Wt} (h : QOk q) {w : Wt} (hf : w.sc < 18446744073709551616) : QOk (qadd q w).1 := by
  unfold qadd
  split
  · exact h
  · rename_i h1
    split
    · exact h
    · rename_i h2
      split
      · exact h
      · rename_i h3
        exact h.ins (by simpa using h1) hf (by simpa using h2) (by omega)
def fitsQ (left : List Int) (w : Wt) : Bool := decide (w.cls < left.length) && decide (w.many ≤ left.getD w.cls.toNat 0)
def qfirst (q : List Wt) (left : List Int) : Option Wt := q.find? (fitsQ left)
end Go.VC

/- Commands and replies as bytes, plainly: there and back. No condition. -/
namespace Go.Proofs.YtfgbbckfikiomaaGreatDoor
set_option linter.unusedVariables false
open Go Go.VC
def rdEach {α : Type} (one : Rd → α × Rd) : Nat → Rd → List α × Rd
  | 0, r => ([], r)
  | n + 1, r => ((one r).1 :: (rdEach one n (one r).2).1, (rdEach one n (one r).2).2)
theorem rdEach_succ {α : Type} (one : Rd → α × Rd) (n : Nat) (r : Rd) : rdEach one (n + 1) r = ((one r).1 :: (rdEach one n (one r).2).1, (rdEach one n (one r).2).2) := rfl
theorem rdEach_len {α : Type} (one : Rd → α × Rd) : ∀ (n : Nat) (r : Rd), (rdEach one n r).1.length = n
  | 0, _ => rfl
  | n + 1, r => by rw [rdEach_succ, List.length_cons, rdEach_len one n]
theorem rdEach_snoc {α : Type} (one : Rd → α × Rd) : ∀ (k : Nat) (r : Rd), rdEach one (k + 1) r = ((rdEach one k r).1 ++ [(one (rdEach one k r).2).1], (one (rdEach one k r).2).2)
  | 0, _ => rfl
  | k + 1, r => by
    rw [rdEach_succ, rdEach_snoc one k (one r).2]
    rfl
theorem rdEach_inv {α : Type} {one : Rd → α × Rd} {P : Rd → Prop} {Q : α → Prop} (h : ∀ r, P r → Q (one r).1 ∧ P (one r).2) : ∀ (n : Nat) {r : Rd}, P r → (∀ x ∈ (rdEach one n r).1, Q x) ∧ P (rdEach one n r).2
  | 0, _, hr => ⟨fun _ hx => (by cases hx), hr⟩
  | n + 1, r, hr => by
    have h1 := h r hr
    have h2 := rdEach_inv h n h1.2
    refine ⟨fun x hx => ?_, h2.2⟩
    rcases List.mem_cons.1 hx with rfl | hx
    · exact h1.1
    · exact h2.1 x hx
def Bytes (l : List Int) : Prop := ∀ x ∈ l, 0 ≤ x ∧ x < 256
def strRd (most : Int) (r : Rd) : ByteArray × Rd := (VC.strOf (rdText most r).1, (rdText most r).2)
def fltRd (r : Rd) : Nat × Rd := (ofF (rdNum 18446744073709551615 r).1.toNat, (rdNum 18446744073709551615 r).2)
def strB (s : ByteArray) : List Int := textB (bytesL s)
theorem strRd_bd {most : Int} {rd : Rd} (hb : Bytes rd.bs) : Bytes (strRd most rd).2.bs := (rdText_bd hb).2
theorem fltRd_bd {rd : Rd} (hb : Bytes rd.bs) : Bytes (fltRd rd).2.bs := rdNum_bd hb
theorem fltRd_lt {rd : Rd} (hb : Bytes rd.bs) : (fltRd rd).1 < 18446744073709551616 := by
  have := rdNum_val (most := 18446744073709551615) hb (by omega)
  exact of_lt (by omega)
structure Cm where
  kind : Int
  pnr : ByteArray
  flt : Int
  cls : Int
  many : Int
  time : Int
  sc : Nat
  lab : ByteArray
  rows : Int
  grps : List Int
  parts : List Nat
def numOk (n : Int) : Prop := 0 ≤ n ∧ n ≤ 9999
structure RightC (c : Cm) : Prop where
  flt : numOk c.flt
  cls : numOk c.cls
  many : numOk c.many
  rows : numOk c.rows
  grps : ∀ n ∈ c.grps, numOk n
  pnr : c.pnr.size ≤ 16
  lab : c.lab.size ≤ 16
  gl : c.grps.length ≤ 16
  pl : c.parts.length ≤ 16
  kind : 1 ≤ c.kind ∧ c.kind ≤ 9
  time : 0 ≤ c.time ∧ c.time ≤ 1099511627776
structure FltC (c : Cm) : Prop where
  sc : c.sc < 18446744073709551616
  parts : ∀ x ∈ c.parts, x < 18446744073709551616
structure Rp where
  code : Int
  pnr : ByteArray
  state : Int
  flt : Int
  cls : Int
  many : Int
  time : Int
  left : List Int
  labs : List ByteArray
def nn (n : Int) : Int := max n 0
def rpB (r : Rp) : List Int :=
  numsB [nn r.code] ++ (strB r.pnr ++ (numsB [nn r.state] ++ (numsB [nn r.flt] ++ (numsB [nn r.cls] ++ (numsB [nn r.many] ++ (numsB [nn r.time] ++ (numsB [(r.left.length : Int)] ++ (numsB (r.left.map nn) ++ (numsB [(r.labs.length : Int)] ++ (r.labs.map strB).flatten)))))))))
def rpRd (r : Rd) : Rp × Rd :=
  let k := rdNum 1099511627776 r
  let p := strRd 16 k.2
  let s := rdNum 1099511627776 p.2
  let f := rdNum 1099511627776 s.2
  let c := rdNum 1099511627776 f.2
  let m := rdNum 1099511627776 c.2
  let t := rdNum 1099511627776 m.2
  let n := rdNum 8 t.2
  let g := rdEach (rdNum 1099511627776) n.1.toNat n.2
  let q := rdNum 600 g.2
  let x := rdEach (strRd 16) q.1.toNat q.2
  (⟨k.1, p.1, s.1, f.1, c.1, m.1, t.1, g.1, x.1⟩, x.2)
structure RpIn (r : Rp) : Prop where
  code : 0 ≤ r.code ∧ r.code ≤ 1099511627776
  pnr : r.pnr.size ≤ 16
  state : 0 ≤ r.state ∧ r.state ≤ 1099511627776
  flt : 0 ≤ r.flt ∧ r.flt ≤ 1099511627776
  cls : 0 ≤ r.cls ∧ r.cls ≤ 1099511627776
  many : 0 ≤ r.many ∧ r.many ≤ 1099511627776
  time : 0 ≤ r.time ∧ r.time ≤ 1099511627776
  ll : r.left.length ≤ 8
  left : ∀ n ∈ r.left, 0 ≤ n ∧ n ≤ 1099511627776
  bl : r.labs.length ≤ 600
  labs : ∀ s ∈ r.labs, s.size ≤ 16
theorem nn_id {n : Int} (h : 0 ≤ n) : nn n = n := by unfold nn; omega
end Go.Proofs.YtfgbbckfikiomaaGreatDoor
/- Lists by keys. No condition. -/
namespace Go.VC
set_option linter.unusedVariables false
section
variable {α : Type} {k : α → Int}
def KRise (k : α → Int) (l : List α) : Prop := l.Pairwise fun a b => k a < k b
def kget (k : α → Int) (n : Int) (l : List α) : Option α := l.find? fun x => decide (k x = n)
def kset (k : α → Int) (n : Int) (f : α → α) (l : List α) : List α := l.map fun x => if k x = n then f x else x
def kins (k : α → Int) (x : α) (l : List α) : List α := l.takeWhile (fun y => decide (k y < k x)) ++ x :: l.dropWhile (fun y => decide (k y < k x))
theorem kget_none {n : Int} {l : List α} : kget k n l = none ↔ ∀ x ∈ l, k x ≠ n := by
  unfold kget
  rw [List.find?_eq_none]
  simp
theorem mem_kset {n : Int} {f : α → α} {l : List α} {y : α} : y ∈ kset k n f l ↔ ∃ x ∈ l, y = if k x = n then f x else x := by
  unfold kset
  rw [List.mem_map]
  exact ⟨fun ⟨x, h1, h2⟩ => ⟨x, h1, h2.symm⟩, fun ⟨x, h1, h2⟩ => ⟨x, h1, h2.symm⟩⟩
theorem kset_len {n : Int} {f : α → α} {l : List α} : (kset k n f l).length = l.length := List.length_map _
theorem kset_rise {n : Int} {f : α → α} {l : List α} (h : KRise k l) (hf : ∀ x ∈ l, k x = n → k (f x) = n) : KRise k (kset k n f l) := by
  unfold KRise kset
  rw [List.pairwise_map]
  refine List.Pairwise.imp_of_mem (fun {a b} ha hb hab => ?_) h
  have h1 : k (if k a = n then f a else a) = k a := by
    split
    · rename_i e; rw [hf a ha e, e]
    · rfl
  have h2 : k (if k b = n then f b else b) = k b := by
    split
    · rename_i e; rw [hf b hb e, e]
    · rfl
  rw [h1, h2]
  exact hab
theorem kins_cons (x a : α) (l : List α) : kins k x (a :: l) = if k a < k x then a :: kins k x l else x :: a :: l := by
  unfold kins
  rw [List.takeWhile_cons, List.dropWhile_cons]
  by_cases h : k a < k x
  · rw [decide_eq_true h, if_pos h]; rfl
  · rw [decide_eq_false h, if_neg h]; rfl
theorem kins_perm {x : α} : ∀ {l : List α}, (kins k x l).Perm (x :: l)
  | [] => List.Perm.refl _
  | a :: l => by
    rw [kins_cons]
    split
    · exact (kins_perm.cons a).trans (List.Perm.swap x a l)
    · exact List.Perm.refl _
theorem KRise.ne {l : List α} (h : KRise k l) : l.Pairwise fun a b => k a ≠ k b := h.imp fun hab e => by omega
end
end Go.VC

/- Who waits, as bytes: there and back; what Decode tells. No condition. -/
namespace Go.Proofs.YtfgbbckfikiomaaGreatDoor
set_option linter.unusedVariables false
open Go Go.VC
def wtRd (r : Rd) : Wt × Rd :=
  let a := rdNum 28629151 r
  let b := rdNum 7 a.2
  let c := rdNum 600 b.2
  let d := rdNum 1099511627776 c.2
  let e := fltRd d.2
  (⟨a.1, b.1, c.1, d.1, e.1⟩, e.2)
theorem wtRd_bd {r : Rd} (hb : Bytes r.bs) : Bytes (wtRd r).2.bs := fltRd_bd (rdNum_bd (rdNum_bd (rdNum_bd (rdNum_bd hb))))
theorem wtRd_fl {r : Rd} (hb : Bytes r.bs) : (wtRd r).1.sc < 18446744073709551616 := fltRd_lt (rdNum_bd (rdNum_bd (rdNum_bd (rdNum_bd hb))))
structure QRight (q : List Wt) : Prop where
  st : QSt q
  ids : QIds q
  ok : ∀ w ∈ q, w.Ok
theorem QRight.pre {a b : List Wt} (h : QRight (a ++ b)) : QRight a :=
  ⟨(List.pairwise_append.1 h.st).1, (List.pairwise_append.1 h.ids).1, fun w hw => h.ok w (by simp [hw])⟩
theorem QRight.nil : QRight [] := ⟨List.Pairwise.nil, List.Pairwise.nil, fun _ h => (by cases h)⟩
theorem QRight.snoc {q : List Wt} {w : Wt} (h : QRight q) (hw : w.Ok) (hi : ∀ x ∈ q, x.id ≠ w.id) (ha : ∀ x ∈ q, x.ahead w = true) : QRight (q ++ [w]) := by
  refine ⟨List.pairwise_append.2 ⟨h.st, List.pairwise_singleton _ _, fun a ha' b hb => ?_⟩, List.pairwise_append.2 ⟨h.ids, List.pairwise_singleton _ _, fun a ha' b hb => ?_⟩, fun x hx => ?_⟩
  · rw [List.mem_singleton.1 hb]; exact ha a ha'
  · rw [List.mem_singleton.1 hb]; exact hi a ha'
  · rcases List.mem_append.1 hx with hx | hx
    · exact h.ok x hx
    · rw [List.mem_singleton.1 hx]; exact hw
theorem QRight.last {q : List Wt} {w : Wt} (h : QRight (q ++ [w])) : w.Ok ∧ (∀ x ∈ q, x.id ≠ w.id) ∧ ∀ x ∈ q, x.ahead w = true :=
  ⟨h.ok w (by simp), fun x hx => (List.pairwise_append.1 h.ids).2.2 x hx w (by simp), fun x hx => (List.pairwise_append.1 h.st).2.2 x hx w (by simp)⟩
def qRaw (bs : List Int) : List Wt × Rd := rdEach wtRd (rdNum 200 ⟨bs, false⟩).1.toNat (rdNum 200 ⟨bs, false⟩).2
def QDec (bs : List Int) : Prop := rdWhole (qRaw bs).2 = true ∧ QRight (qRaw bs).1
theorem qRaw_bd {bs : List Int} (hb : Bytes bs) : (∀ w ∈ (qRaw bs).1, w.sc < 18446744073709551616) ∧ Bytes (qRaw bs).2.bs :=
  rdEach_inv (one := wtRd) (P := fun r => Bytes r.bs) (Q := fun w => w.sc < 18446744073709551616) (fun _ hr => ⟨wtRd_fl hr, wtRd_bd hr⟩) (rdNum 200 ⟨bs, false⟩).1.toNat (r := (rdNum 200 ⟨bs, false⟩).2) (rdNum_bd (rd := ⟨bs, false⟩) hb)
theorem qRaw_len {bs : List Int} (hb : Bytes bs) : (qRaw bs).1.length ≤ 200 := by
  have := rdNum_val (most := 200) (rd := ⟨bs, false⟩) hb (by omega)
  show (rdEach wtRd _ _).1.length ≤ 200
  rw [rdEach_len]
  omega
theorem QDec.ok {bs : List Int} (hb : Bytes bs) (h : QDec bs) : QOk (qRaw bs).1 := ⟨h.2.st, h.2.ids, h.2.ok, (qRaw_bd hb).1, qRaw_len hb⟩
end Go.Proofs.YtfgbbckfikiomaaGreatDoor
/- Both flights side by side: fresh, awake, few, do, alike. Condition: bounds. -/
namespace Go.Proofs.YtfgbbckfikiomaaGreatDoor
set_option linter.unusedVariables false
open Go Go.VC
variable {R R' : Cx} {Hs Rest : List HP} {w : World}
def PairAt (p q : Nat) (r : RF) : HP := exs fun f : PF => Star [pur (Tie f r ∧ Good r), FlightAt p f, RFAt q r]
theorem Sat.pair {p q : Nat} {r : RF} : Sat R (PairAt p q r :: Hs) w ↔ ∃ f, (Tie f r ∧ Good r) ∧ Sat R (FlightAt p f :: RFAt q r :: Hs) w := by
  unfold PairAt
  rw [Sat.exs]
  constructor
  · rintro ⟨f, h⟩
    obtain ⟨h1, h2⟩ := Sat.pur.1 (Sat.star.1 h)
    exact ⟨f, h1, h2⟩
  · rintro ⟨f, h1, h2⟩
    exact ⟨f, Sat.star.2 (Sat.pur.2 ⟨h1, h2⟩)⟩
theorem Good.hL {r : RF} (g : Good r) : r.L.length ≤ 1000000 := by have := g.len.1; omega
structure StepL where
  d : Int
  owner : Int
  cls : Int
  many : Int
  label : ByteArray
end Go.Proofs.YtfgbbckfikiomaaGreatDoor
/- The program's flight alone, told by the document's; alike; how the laws begin. Condition: bounds. -/
namespace Go.Proofs.YtfgbbckfikiomaaGreatDoor
set_option linter.unusedVariables false
open Go Go.VC
variable {R R' : Cx} {Hs Rest : List HP} {w : World}
def LoneAt (p : Nat) (r : RF) : HP := exs fun f : PF => Star [pur (Tie f r ∧ Good r), FlightAt p f]
theorem Sat.lone {p : Nat} {r : RF} : Sat R (LoneAt p r :: Hs) w ↔ ∃ f, (Tie f r ∧ Good r) ∧ Sat R (FlightAt p f :: Hs) w := by
  unfold LoneAt
  rw [Sat.exs]
  constructor
  · rintro ⟨f, h⟩
    obtain ⟨h1, h2⟩ := Sat.pur.1 (Sat.star.1 h)
    exact ⟨f, h1, h2⟩
  · rintro ⟨f, h1, h2⟩
    exact ⟨f, Sat.star.2 (Sat.pur.2 ⟨h1, h2⟩)⟩
theorem PairAt.open {p q : Nat} {r : RF} (hw : Sat R (PairAt p q r :: Hs) w) : Good r ∧ Sat R (LoneAt p r :: RFAt q r :: Hs) w := by
  obtain ⟨f, h, hw⟩ := Sat.pair.1 hw
  exact ⟨h.2, Sat.lone.2 ⟨f, h, hw⟩⟩
theorem PairAt.close {p q : Nat} {r : RF} (hw : Sat R (LoneAt p r :: RFAt q r :: Hs) w) : Sat R (PairAt p q r :: Hs) w := by
  obtain ⟨f, h, hw⟩ := Sat.lone.1 hw
  exact Sat.pair.2 ⟨f, h, hw⟩
section
variable {p : Nat} {r : RF}
theorem lone_left (hw : Sat R (LoneAt p r :: Hs) w) : Gets Tryz.prog 58 #[.pointer (some ⟨p, 0, none⟩)] w fun v w' => ∃ t : Sl, v = .slice t.a t.len t.cap ∧ Sat R (Own t 3 (intsI (rleftsF r)) :: LoneAt p r :: Hs) w' := by
  obtain ⟨f, ⟨t, g⟩, hw⟩ := Sat.lone.1 hw
  have b := t.bounds g
  refine (left_fspec (by omega) (by omega) hw).use ?_
  rintro _ w ⟨s, rfl, hw⟩
  rw [tie_left t] at hw
  exact ⟨_, rfl, s, rfl, hw.cons fun _ h => Sat.lone.2 ⟨_, ⟨t, g⟩, h⟩⟩
end
end Go.Proofs.YtfgbbckfikiomaaGreatDoor



/- The book, plainly: what each command does. No condition. -/
namespace Go.Proofs.YtfgbbckfikiomaaGreatDoor
set_option linter.unusedVariables false
open Go Go.VC
open scoped Classical
noncomputable section
structure Pl where
  r : RF
  q : List Wt
abbrev Pl.n (p : Pl) : Int := p.r.num
structure Bk where
  id : Int
  flt : Int
  cls : Int
  many : Int
  state : Int
  till : Int
structure Book where
  now : Int
  next : Int
  fl : List Pl
  L : List Bk
def Book.at (b : Book) (n : Int) : Option Pl := kget Pl.n n b.fl
def Book.bk (b : Book) (id : Int) : Option Bk := kget Bk.id id b.L
def Book.put (b : Book) (n : Int) (f : Pl → Pl) (L : List Bk) : Book := { b with fl := kset Pl.n n f b.fl, L := L }
def newBook : Book := ⟨0, 1, [], []⟩
def emS : ByteArray := ByteArray.empty
def errR (e : Int) : Rp := ⟨e, emS, 0, 0, 0, 0, 0, [], []⟩
def openB (b : Book) (c : Cm) : Book × Rp :=
  if (b.at c.flt).isSome then (b, errR 7) else if 8 ≤ b.fl.length then (b, errR 3)
  else if ¬ newOk c.flt c.rows c.grps c.parts then (b, errR 1)
  else ({ b with fl := kins Pl.n ⟨rnewF c.flt c.rows c.grps (limitsT (layN c.rows c.grps) c.parts).1, []⟩ b.fl },
    ⟨0, emS, 0, c.flt, 0, 0, 0, rleftsF (rnewF c.flt c.rows c.grps (limitsT (layN c.rows c.grps) c.parts).1), []⟩)
def takeP (id cls many : Int) (p : Pl) : Pl := { p with r := (rtakeF p.r id cls many).1 }
def HasP (p : Pl) (x : Bk) : Prop :=
  if x.state = 3 then (∃ w ∈ p.q, w.id = x.id ∧ w.cls = x.cls ∧ w.many = x.many) ∧ x.cls < p.r.lims.length
  else ∃ h ∈ p.r.L, h.owner = x.id ∧ h.cls = x.cls ∧ h.many = x.many
structure BkOk (next : Int) (x : Bk) : Prop where
  id : 1 ≤ x.id ∧ x.id < next
  flt : 0 ≤ x.flt ∧ x.flt ≤ 9999
  cls : 0 ≤ x.cls ∧ x.cls ≤ 9999
  many : 0 ≤ x.many ∧ x.many ≤ 9999
  state : 1 ≤ x.state ∧ x.state ≤ 3
  till : 0 ≤ x.till ∧ x.till ≤ 1099511627776
  free : x.state ≠ 1 → x.till = 0
structure LocP (L : List Bk) (p : Pl) : Prop where
  has : ∀ x ∈ L, x.flt = p.n → HasP p x
  backQ : ∀ w ∈ p.q, ∃ x ∈ L, x.id = w.id ∧ x.flt = p.n ∧ x.state = 3
  backH : ∀ h ∈ p.r.L, ∃ x ∈ L, x.id = h.owner ∧ x.flt = p.n ∧ x.state ≠ 3
structure Core (b : Book) : Prop where
  now : 0 ≤ b.now ∧ b.now ≤ 1099511627776
  next : 1 ≤ b.next ∧ b.next ≤ 28629151
  good : ∀ p ∈ b.fl, Good p.r
  qok : ∀ p ∈ b.fl, QOk p.q
  nums : KRise Pl.n b.fl
  few : b.fl.length ≤ 8
  ids : KRise Bk.id b.L
  each : ∀ x ∈ b.L, BkOk b.next x
  many : b.L.length ≤ 300
  there : ∀ x ∈ b.L, ∃ p ∈ b.fl, p.n = x.flt
  loc : ∀ p ∈ b.fl, LocP b.L p
def Timely (b : Book) : Prop := ∀ x ∈ b.L, x.state = 1 → b.now < x.till
def NoFit (p : Pl) : Prop := qfirst p.q (rleftsF p.r) = none
structure BookOk (b : Book) : Prop where
  core : Core b
  time : Timely b
  nofit : ∀ p ∈ b.fl, NoFit p
theorem Core.swap {b : Book} (c : Core b) {n : Int} {f : Pl → Pl} {L : List Bk} {next : Int} (hn : b.next ≤ next ∧ next ≤ 28629151)
    (hf : ∀ p ∈ b.fl, p.n = n → (f p).n = n ∧ Good (f p).r ∧ QOk (f p).q ∧ LocP L (f p))
    (ids : KRise Bk.id L) (each : ∀ x ∈ L, BkOk next x) (many : L.length ≤ 300)
    (out : ∀ x, x.flt ≠ n → (x ∈ L ↔ x ∈ b.L)) (here : ∀ x ∈ L, x.flt = n → ∃ p ∈ b.fl, p.n = n) : Core { b.put n f L with next := next } := by
  have hmem : ∀ {p}, p ∈ kset Pl.n n f b.fl → ∃ q ∈ b.fl, q.n = p.n ∧ ((q.n = n ∧ p = f q) ∨ (q.n ≠ n ∧ p = q)) := fun {p} hp => by
    obtain ⟨q, hq, e⟩ := mem_kset.1 hp
    by_cases h : q.n = n
    · rw [if_pos h] at e
      exact ⟨q, hq, by rw [e, (hf q hq h).1, h], .inl ⟨h, e⟩⟩
    · rw [if_neg h] at e
      exact ⟨q, hq, by rw [e], .inr ⟨h, e⟩⟩
  have hput : ∀ {q}, q ∈ b.fl → ∃ p ∈ kset Pl.n n f b.fl, p.n = q.n := fun {q} hq => by
    by_cases h : q.n = n
    · exact ⟨f q, mem_kset.2 ⟨q, hq, by rw [if_pos h]⟩, by rw [(hf q hq h).1, h]⟩
    · exact ⟨q, mem_kset.2 ⟨q, hq, by rw [if_neg h]⟩, rfl⟩
  refine ⟨c.now, ⟨Int.le_trans c.next.1 hn.1, hn.2⟩, fun p hp => ?_, fun p hp => ?_, kset_rise c.nums fun p hp e => (hf p hp e).1, by show (kset Pl.n n f b.fl).length ≤ 8; rw [kset_len]; exact c.few, ids, each, many, fun x hx => ?_, fun p hp => ?_⟩
  · obtain ⟨q, hq, _, ⟨h, rfl⟩ | ⟨h, rfl⟩⟩ := hmem hp
    · exact (hf q hq h).2.1
    · exact c.good p hq
  · obtain ⟨q, hq, _, ⟨h, rfl⟩ | ⟨h, rfl⟩⟩ := hmem hp
    · exact (hf q hq h).2.2.1
    · exact c.qok p hq
  · by_cases h : x.flt = n
    · obtain ⟨p, hp, e⟩ := here x hx h
      obtain ⟨p', hp', e'⟩ := hput hp
      exact ⟨p', hp', by rw [e', e, h]⟩
    · obtain ⟨p, hp, e⟩ := c.there x ((out x h).1 hx)
      obtain ⟨p', hp', e'⟩ := hput hp
      exact ⟨p', hp', by rw [e', e]⟩
  · obtain ⟨q, hq, _, ⟨h, rfl⟩ | ⟨h, rfl⟩⟩ := hmem hp
    · exact (hf q hq h).2.2.2
    · have hl := c.loc p hq
      refine ⟨fun x hx e => hl.has x ((out x (by rw [e]; exact h)).1 hx) e, fun w hw => ?_, fun o ho => ?_⟩
      · obtain ⟨x, hx, a1, a2, a3⟩ := hl.backQ w hw
        exact ⟨x, (out x (by rw [a2]; exact h)).2 hx, a1, a2, a3⟩
      · obtain ⟨x, hx, a1, a2, a3⟩ := hl.backH o ho
        exact ⟨x, (out x (by rw [a2]; exact h)).2 hx, a1, a2, a3⟩
theorem BkOk.le {n m : Int} {x : Bk} (h : BkOk n x) (hl : n ≤ m) : BkOk m x := ⟨⟨h.id.1, Int.lt_of_lt_of_le h.id.2 hl⟩, h.flt, h.cls, h.many, h.state, h.till, h.free⟩
end
end Go.Proofs.YtfgbbckfikiomaaGreatDoor
/- What a flight's steps do to what is left, and to who has what. No condition. -/
namespace Go.Proofs.YtfgbbckfikiomaaGreatDoor
set_option linter.unusedVariables false
open Go Go.VC
variable {r : RF} {o c m : Int}
structure Seatly (r r' : RF) : Prop where
  num : r'.num = r.num
  lims : r'.lims = r.lims
  rows : r'.rows = r.rows
  grps : r'.grps = r.grps
  each : ∃ A hd hd' C, r.L = A ++ hd :: C ∧ r'.L = A ++ hd' :: C ∧ hd'.owner = hd.owner ∧ hd'.cls = hd.cls ∧ hd'.many = hd.many
theorem Seatly.sold {r' : RF} (h : Seatly r r') : r'.sold = r.sold := by
  obtain ⟨A, hd, hd', C, e1, e2, _, e4, e5⟩ := h.each
  unfold RF.sold soldL
  rw [h.lims]
  apply List.map_congr_left
  intro k _
  rw [e1, e2, cntL_app, cntL_app, cntL_cons, cntL_cons, e4, e5]
theorem Seatly.mem {r' : RF} (h : Seatly r r') {x : Hold} (hx : x ∈ r.L) : ∃ y ∈ r'.L, y.owner = x.owner ∧ y.cls = x.cls ∧ y.many = x.many := by
  obtain ⟨A, hd, hd', C, e1, e2, e3, e4, e5⟩ := h.each
  rw [e1, List.mem_append, List.mem_cons] at hx
  rw [e2]
  rcases hx with hx | rfl | hx
  · exact ⟨x, by simp [hx], rfl, rfl, rfl⟩
  · exact ⟨hd', by simp, e3, e4, e5⟩
  · exact ⟨x, by simp [hx], rfl, rfl, rfl⟩
theorem Seatly.symm {r' : RF} (h : Seatly r r') : Seatly r' r := by
  obtain ⟨A, hd, hd', C, e1, e2, e3, e4, e5⟩ := h.each
  exact ⟨h.num.symm, h.lims.symm, h.rows.symm, h.grps.symm, A, hd', hd, C, e2, e1, e3.symm, e4.symm, e5.symm⟩
end Go.Proofs.YtfgbbckfikiomaaGreatDoor
/- The book, plainly: what holds of it, behind each step. No condition. -/
namespace Go.Proofs.YtfgbbckfikiomaaGreatDoor
set_option linter.unusedVariables false
open Go Go.VC
variable {b : Book} {n : Int} {p : Pl} {w : Wt} {x : Bk}
structure Kept (n : Int) (b b' : Book) : Prop where
  now : b'.now = b.now
  next : b'.next = b.next
  keys : b'.fl.map Pl.n = b.fl.map Pl.n
  others : ∀ q ∈ b'.fl, q.n = n ∨ q ∈ b.fl
  ids : b'.L.map Bk.id = b.L.map Bk.id
  bk : ∀ y ∈ b'.L, ∃ x ∈ b.L, y.id = x.id ∧ y.flt = x.flt ∧ y.cls = x.cls ∧ y.many = x.many ∧ y.till = x.till
theorem Kept.refl (n : Int) (b : Book) : Kept n b b := ⟨rfl, rfl, rfl, fun _ h => .inr h, rfl, fun y hy => ⟨y, hy, rfl, rfl, rfl, rfl, rfl⟩⟩
theorem Kept.trans {b1 b2 b3 : Book} (h1 : Kept n b1 b2) (h2 : Kept n b2 b3) : Kept n b1 b3 :=
  ⟨h2.now.trans h1.now, h2.next.trans h1.next, h2.keys.trans h1.keys, fun q hq => by
    rcases h2.others q hq with h | h
    · exact .inl h
    · exact h1.others q h, h2.ids.trans h1.ids, fun y hy => by
    obtain ⟨x, hx, a1, a2, a3, a4, a5⟩ := h2.bk y hy
    obtain ⟨z, hz, c1, c2, c3, c4, c5⟩ := h1.bk x hx
    exact ⟨z, hz, by omega, by omega, by omega, by omega, by omega⟩⟩
end Go.Proofs.YtfgbbckfikiomaaGreatDoor



/- The book, plainly: its bytes, and what is loaded of them. No condition. -/
namespace Go.Proofs.YtfgbbckfikiomaaGreatDoor
set_option linter.unusedVariables false
open Go Go.VC
open scoped Classical
noncomputable section
variable {b : Book} {n : Int} {p : Pl} {w : Wt} {x : Bk} {r : RF}
def things (l : List Pl) : Nat := (l.map fun p => p.r.L.length + p.q.length).sum
structure BkMay (b : Book) (x : Bk) : Prop where
  id : 1 ≤ x.id ∧ x.id < b.next
  state : 1 ≤ x.state
  held : x.state = 1 → b.now < x.till
  free : x.state ≠ 1 → x.till = 0
  has : ∃ p, b.at x.flt = some p ∧ HasP p x
structure MayB (b : Book) : Prop where
  next : 1 ≤ b.next
  nums : KRise Pl.n b.fl
  ids : KRise Bk.id b.L
  each : ∀ x ∈ b.L, BkMay b x
  things : things b.fl = b.L.length
theorem nums1_len {x : Int} (h : 0 ≤ x ∧ x < 18446744073709551616) : (numsB [x]).length ≤ 9 := by
  have := numsB_len (l := [x]) fun y hy => by rw [List.mem_singleton.1 hy]; exact h
  simpa using this
theorem flat_len {α : Type} {code : α → List Int} {m : Nat} : ∀ {l : List α}, (∀ x ∈ l, (code x).length ≤ m) → ((l.map code).flatten).length ≤ m * l.length
  | [], _ => by simp
  | a :: l, h => by
    have h1 := h a (by simp)
    have h2 := flat_len (l := l) fun x hx => h x (by simp [hx])
    rw [List.map_cons, List.flatten_cons, List.length_append, List.length_cons, Nat.mul_succ]
    omega
theorem textB_len {d : List Int} (h : d.length < 1000000) : (textB d).length ≤ d.length + 9 := by
  have := numB_len (n := d.length) (by omega)
  unfold textB
  rw [List.length_append]
  omega
end
end Go.Proofs.YtfgbbckfikiomaaGreatDoor
/- The formulas of functions of this seat's translation, printed by a program of mine off the translation; each is proved equal to 'fnF' of the function's body, so it is enough for the call. No condition. -/
namespace Go.Proofs.YtfgbbckfikiomaaGreatDoor
open Go Go.VC
set_option linter.unusedVariables false
def B111  (K : Value → World → Prop) (w : World) : Prop :=
  New (.cells #[.slice none 0 0] 179 (0, 0)) (fun b_t2 w_1 =>
  K (.pointer ((some ⟨b_t2, 0, none⟩))) w_1) w
def sk111 : Sk := .leaf
theorem ok111 : fnOk Tryz.prog Tryz.f111.ntmps Tryz.f111 sk111 = true := by kernel_rfl
theorem eq111  (K : Value → World → Prop) (w : World) : fnF Tryz.prog cl Tryz.f111 sk111 [] K w = B111  K w := by kernel_rfl
theorem call111  (K : Value → World → Prop) (w : World) (h : B111  K w) : Gets Tryz.prog 111 #[] w K :=
  calls_of (sk := sk111) cl_ok mixed Tryz.func111 ok111 (args := []) (Nat.le_of_ble_eq_true (by kernel_rfl)) (by rw [eq111]; exact h)
end Go.Proofs.YtfgbbckfikiomaaGreatDoor
/- The formulas of functions of this seat's translation, printed by a program of mine off the translation; each is proved equal to 'fnF' of the function's body, so it is enough for the call. No condition. -/
namespace Go.Proofs.YtfgbbckfikiomaaGreatDoor
open Go Go.VC
set_option linter.unusedVariables false
def B40 (holds0 : Bool) (e1 : Int) (X : List PanicEntry → World → Prop) (K : Value → World → Prop) (w : World) : Prop :=
  Br (!holds0)
   (X [⟨.iface 27 (.int .i64 e1), false, false⟩] w)
   (K (.tuple #[]) w)
def sk40 : Sk := .leaf
theorem ok40 : fnOkx Tryz.prog Tryz.f40.ntmps Tryz.f40 sk40 [] = true := by kernel_rfl
theorem eq40 (holds0 : Bool) (e1 : Int) (X : List PanicEntry → World → Prop) (K : Value → World → Prop) (w : World) : fnFx Tryz.prog cl X Tryz.f40 sk40 [.bool holds0, .int .i64 e1] K w = B40 holds0 e1 X K w := by kernel_rfl
theorem call40 (holds0 : Bool) (e1 : Int) (X : List PanicEntry → World → Prop) (K : Value → World → Prop) (w : World) (h : B40 holds0 e1 X K w) : GetsX Tryz.prog 40 #[.bool holds0, .int .i64 e1] w X K :=
  callsx_of (sk := sk40) cl_ok mixed Tryz.func40 ok40 (args := [.bool holds0, .int .i64 e1]) (Nat.le_of_ble_eq_true (by kernel_rfl)) (by rw [eq40]; exact h)
def B110 (e0 : Int) (X : List PanicEntry → World → Prop) (K : Value → World → Prop) (w : World) : Prop :=
  Br (e0 != 0)
   (X [⟨.iface 27 (.int .i64 e0), false, false⟩] w)
   (K (.tuple #[]) w)
def sk110 : Sk := .leaf
theorem ok110 : fnOkx Tryz.prog Tryz.f110.ntmps Tryz.f110 sk110 [] = true := by kernel_rfl
theorem eq110 (e0 : Int) (X : List PanicEntry → World → Prop) (K : Value → World → Prop) (w : World) : fnFx Tryz.prog cl X Tryz.f110 sk110 [.int .i64 e0] K w = B110 e0 X K w := by kernel_rfl
theorem call110 (e0 : Int) (X : List PanicEntry → World → Prop) (K : Value → World → Prop) (w : World) (h : B110 e0 X K w) : GetsX Tryz.prog 110 #[.int .i64 e0] w X K :=
  callsx_of (sk := sk110) cl_ok mixed Tryz.func110 ok110 (args := [.int .i64 e0]) (Nat.le_of_ble_eq_true (by kernel_rfl)) (by rw [eq110]; exact h)
def B39 (r0 : Option Addr) (x : Value) (K : World → Prop) (w : World) : Prop :=
  ∃ t5 : Bool, (∀ w', (fun w' => w' = w) w' → ((do eqGuard BinOp.neq 20 (Operand.tmp 4) (Operand.const Value.nilIface) x .nilIface; binOp BinOp.neq 20 x .nilIface : Sem Value)).run Tryz.prog w' = .ok (.bool t5) w') ∧
  Br t5
   (∃ t8 : Int, (∀ w', (fun w' => w' = w) w' → ((Instr.typeAssert x 20 27 false)).run Tryz.prog w' = .ok (.int .i64 t8) w') ∧
    NilP r0 fun a_t10 =>
    ∃ w_1 : World, ((Instr.storeAt 31 (.pointer ((some (a_t10)))) (.agg #[.int .i64 t8, .string (ByteArray.mk #[]), .int .i64 0, .int .i64 0, .int .i64 0, .int .i64 0, .int .i64 0, .slice none 0 0, .slice none 0 0])).run Tryz.prog w = .ok () w_1) ∧
    K w_1)
   (K w)
def sk39 : Sk := .leaf
theorem ok39 : recOk Tryz.prog Tryz.f39 sk39 = true := by kernel_rfl
theorem eq39 (r0 : Option Addr) (x : Value) (K : World → Prop) (w : World) : recF Tryz.prog cl Tryz.f39 sk39 [.pointer r0] x K w = B39 r0 x K w := by kernel_rfl
theorem callP39 (r0 : Option Addr) (x : Value) (K : World → Prop) (w : World) (h : B39 r0 x K w) : CallsD Tryz.prog 39 #[.pointer r0] (.panicking [⟨x, false, false⟩]) w fun e v w' => (∃ y, e = .returned y) ∧ v = .panicking [⟨x, true, false⟩] ∧ K w' :=
  rec_panic (sk := sk39) cl_ok mixed Tryz.func39 ok39 (args := [.pointer r0]) (Nat.le_of_ble_eq_true (by kernel_rfl)) (by rw [eq39]; exact h)
theorem callR39 (r0 : Option Addr) (K : World → Prop) (w : World) (h : B39 r0 .nilIface K w) : CallsD Tryz.prog 39 #[.pointer r0] .returning w fun e v w' => (∃ y, e = .returned y) ∧ v = .returning ∧ K w' :=
  rec_return (sk := sk39) cl_ok mixed Tryz.func39 ok39 (args := [.pointer r0]) (Nat.le_of_ble_eq_true (by kernel_rfl)) (by rw [eq39]; exact h)
def B41 (c0_0 : Int) (c0_1 : ByteArray) (c0_2 : Int) (c0_3 : Int) (c0_4 : Int) (c0_5 : Int) (c0_6 : Nat) (c0_7 : ByteArray) (c0_8 : Int) (c0_9 : Sl) (c0_10 : Sl) (K : Value → World → Prop) (w : World) : Prop :=
  New (.cells #[.int .i64 c0_0, .string c0_1, .int .i64 c0_2, .int .i64 c0_3, .int .i64 c0_4, .int .i64 c0_5, .float .f64 c0_6, .string c0_7, .int .i64 c0_8, .slice c0_9.a c0_9.len c0_9.cap, .slice c0_10.a c0_10.len c0_10.cap] 38 (0, 0)) (fun b_c1 w_1 =>
  ∃ t9 : Int, (At (fun w' => w' = w_1) ⟨b_c1, 0 + 2, none⟩ [.int .i64 t9]) ∧
  ∃ t11 : Int, (At (fun w' => w' = w_1) ⟨b_c1, 0 + 3, none⟩ [.int .i64 t11]) ∧
  ∃ t13 : Int, (At (fun w' => w' = w_1) ⟨b_c1, 0 + 4, none⟩ [.int .i64 t13]) ∧
  ∃ t16 : Int, (At (fun w' => w' = w_1) ⟨b_c1, 0 + 8, none⟩ [.int .i64 t16]) ∧
  New (.cells #[.int .i64 t9, .int .i64 t11, .int .i64 t13, .int .i64 t16] 3 (0, 0)) (fun b_t17 w_2 =>
  ∃ t20 : Sl, (At (fun w' => w' = w_2) ⟨b_c1, 0 + 8 + 1, none⟩ [.slice t20.a t20.len t20.cap]) ∧
  ∃ w_3 : World, ∃ t21 : Sl, ((Builtin.append_ #[28, 28] 28 #[.slice ((some ⟨b_t17, 0, none⟩)) 4 4, .slice t20.a t20.len t20.cap]).run Tryz.prog w_2 = .ok (.slice t21.a t21.len t21.cap) w_3) ∧
  ∃ (I : Int → World → Prop) (μ : Int → World → Nat), (I 0 w_3) ∧ ∀ (z : Env) (t23 : Int) (w_4 : World), I t23 w_4 →
  Br (decide (t23 < (↑t21.len : Int)))
   (Rng t23 t21.len (NilP t21.a fun a_t25 =>
    ∃ t26 : Int, (At (fun w' => w' = w_4) (Addr.add a_t25 t23.toNat) [.int .i64 t26]) ∧
    Calls Tryz.prog 108 #[.int .i64 t26] w_4 fun e w_5 =>
    ∃ t29 : Bool, (e = .returned (.bool t29)) ∧
    Br t29
     (K (.bool false) w_5)
     ((I (IntKind.i64.wrap (t23 + 1)) w_5) ∧ μ (IntKind.i64.wrap (t23 + 1)) w_5 < μ t23 w_4)))
   (∃ (J : Bool → World → Prop), (∃ t32 : ByteArray, (At (fun w' => w' = w_4) ⟨b_c1, 0 + 1, none⟩ [.string t32]) ∧
      Br (decide ((↑t32.size : Int) ≤ 16))
       (∃ t37 : ByteArray, (At (fun w' => w' = w_4) ⟨b_c1, 0 + 7, none⟩ [.string t37]) ∧
        J (decide ((↑t37.size : Int) ≤ 16)) w_4)
       (J false w_4)) ∧
    ∀ (z_1 : Env) (texts6 : Bool) (w_6 : World), J texts6 w_6 →
    ∃ (J_1 : Bool → World → Prop), (∃ t43 : Sl, (At (fun w' => w' = w_6) ⟨b_c1, 0 + 8 + 1, none⟩ [.slice t43.a t43.len t43.cap]) ∧
      Br (decide ((↑t43.len : Int) ≤ 16))
       (∃ t48 : Sl, (At (fun w' => w' = w_6) ⟨b_c1, 0 + 10, none⟩ [.slice t48.a t48.len t48.cap]) ∧
        J_1 (decide ((↑t48.len : Int) ≤ 16)) w_6)
       (J_1 false w_6)) ∧
    ∀ (z_2 : Env) (lists7 : Bool) (w_7 : World), J_1 lists7 w_7 →
    Br texts6
     (Br lists7
       (∃ t58 : Int, (At (fun w' => w' = w_7) ⟨b_c1, 0, none⟩ [.int .i64 t58]) ∧
        Br (decide (t58 ≥ 1))
         (∃ t63 : Int, (At (fun w' => w' = w_7) ⟨b_c1, 0, none⟩ [.int .i64 t63]) ∧
          Br (decide (t63 ≤ 9))
           (∃ t68 : Int, (At (fun w' => w' = w_7) ⟨b_c1, 0 + 5, none⟩ [.int .i64 t68]) ∧
            Br (decide (t68 ≥ 0))
             (∃ t73 : Int, (At (fun w' => w' = w_7) ⟨b_c1, 0 + 5, none⟩ [.int .i64 t73]) ∧
              K (.bool (decide (t73 ≤ 1099511627776))) w_7)
             (K (.bool false) w_7))
           (K (.bool false) w_7))
         (K (.bool false) w_7))
       (K (.bool false) w_7))
     (K (.bool false) w_7))) w_1) w
def sk41 : Sk := (.seq .leaf (.seq .leaf (.seq (.seq .leaf (.block (.loop [23] [(.int .i64)] [2, 5, 23, 24, 25, 26, 27, 28, 29, 30] .leaf))) (.cut [6] [.bool] [6, 31, 32, 33, 34, 35, 36, 37, 38, 39, 40] .leaf (.cut [7] [.bool] [7, 41, 42, 43, 44, 45, 46, 47, 48, 49, 50, 51] .leaf .leaf)))))
theorem ok41 : fnOk Tryz.prog Tryz.f41.ntmps Tryz.f41 sk41 = true := by kernel_rfl
theorem eq41 (c0_0 : Int) (c0_1 : ByteArray) (c0_2 : Int) (c0_3 : Int) (c0_4 : Int) (c0_5 : Int) (c0_6 : Nat) (c0_7 : ByteArray) (c0_8 : Int) (c0_9 : Sl) (c0_10 : Sl) (K : Value → World → Prop) (w : World) : fnF Tryz.prog cl Tryz.f41 sk41 [.agg #[.int .i64 c0_0, .string c0_1, .int .i64 c0_2, .int .i64 c0_3, .int .i64 c0_4, .int .i64 c0_5, .float .f64 c0_6, .string c0_7, .int .i64 c0_8, .slice c0_9.a c0_9.len c0_9.cap, .slice c0_10.a c0_10.len c0_10.cap]] K w = B41 c0_0 c0_1 c0_2 c0_3 c0_4 c0_5 c0_6 c0_7 c0_8 c0_9 c0_10 K w := by kernel_rfl
theorem call41 (c0_0 : Int) (c0_1 : ByteArray) (c0_2 : Int) (c0_3 : Int) (c0_4 : Int) (c0_5 : Int) (c0_6 : Nat) (c0_7 : ByteArray) (c0_8 : Int) (c0_9 : Sl) (c0_10 : Sl) (K : Value → World → Prop) (w : World) (h : B41 c0_0 c0_1 c0_2 c0_3 c0_4 c0_5 c0_6 c0_7 c0_8 c0_9 c0_10 K w) : Gets Tryz.prog 41 #[.agg #[.int .i64 c0_0, .string c0_1, .int .i64 c0_2, .int .i64 c0_3, .int .i64 c0_4, .int .i64 c0_5, .float .f64 c0_6, .string c0_7, .int .i64 c0_8, .slice c0_9.a c0_9.len c0_9.cap, .slice c0_10.a c0_10.len c0_10.cap]] w K :=
  calls_of (sk := sk41) cl_ok mixed Tryz.func41 ok41 (args := [.agg #[.int .i64 c0_0, .string c0_1, .int .i64 c0_2, .int .i64 c0_3, .int .i64 c0_4, .int .i64 c0_5, .float .f64 c0_6, .string c0_7, .int .i64 c0_8, .slice c0_9.a c0_9.len c0_9.cap, .slice c0_10.a c0_10.len c0_10.cap]]) (Nat.le_of_ble_eq_true (by kernel_rfl)) (by rw [eq41]; exact h)
def B108 (n0 : Int) (K : Value → World → Prop) (w : World) : Prop :=
  Br (decide (n0 < 0))
   (K (.bool true) w)
   (K (.bool (decide (n0 > 9999))) w)
def sk108 : Sk := .leaf
theorem ok108 : fnOk Tryz.prog Tryz.f108.ntmps Tryz.f108 sk108 = true := by kernel_rfl
theorem eq108 (n0 : Int) (K : Value → World → Prop) (w : World) : fnF Tryz.prog cl Tryz.f108 sk108 [.int .i64 n0] K w = B108 n0 K w := by kernel_rfl
theorem call108 (n0 : Int) (K : Value → World → Prop) (w : World) (h : B108 n0 K w) : Gets Tryz.prog 108 #[.int .i64 n0] w K :=
  calls_of (sk := sk108) cl_ok mixed Tryz.func108 ok108 (args := [.int .i64 n0]) (Nat.le_of_ble_eq_true (by kernel_rfl)) (by rw [eq108]; exact h)
def B14  (K : Value → World → Prop) (w : World) : Prop :=
  New (.map #[] 0) (fun b_t1 w_1 =>
  New (.map #[] 0) (fun b_t2 w_2 =>
  New (.cells #[.int .i64 0, .int .i64 1, .map ((some b_t1)), .map ((some b_t2))] 80 (0, 0)) (fun b_t4 w_3 =>
  K (.pointer ((some ⟨b_t4, 0, none⟩))) w_3) w_2) w_1) w
def sk14 : Sk := .leaf
theorem ok14 : fnOk Tryz.prog Tryz.f14.ntmps Tryz.f14 sk14 = true := by kernel_rfl
theorem eq14  (K : Value → World → Prop) (w : World) : fnF Tryz.prog cl Tryz.f14 sk14 [] K w = B14  K w := by kernel_rfl
theorem call14  (K : Value → World → Prop) (w : World) (h : B14  K w) : Gets Tryz.prog 14 #[] w K :=
  calls_of (sk := sk14) cl_ok mixed Tryz.func14 ok14 (args := []) (Nat.le_of_ble_eq_true (by kernel_rfl)) (by rw [eq14]; exact h)
def B49 (w0 : Option Addr) (l1 : Sl) (K : Value → World → Prop) (w : World) : Prop :=
  ∃ (I : Int → World → Prop) (μ : Int → World → Nat), (I 0 w) ∧ ∀ (z : Env) (t8 : Int) (w_1 : World), I t8 w_1 →
  Br (decide (t8 < (↑l1.len : Int)))
   (Rng t8 l1.len (NilP l1.a fun a_t10 =>
    ∃ t11 : Int, (At (fun w' => w' = w_1) (Addr.add a_t10 t8.toNat) [.int .i64 t11]) ∧
    Drw w_1 fun S w_2 =>
    NilP w0 fun a_t14 =>
    ∃ t16 : Sl, (At S (Addr.add a_t14 0) [.slice t16.a t16.len t16.cap]) ∧
    Calls Tryz.prog 120 #[.int .u64 (IntKind.u64.wrap (if 0 > t11 then 0 else t11))] w_2 fun e w_3 =>
    ∃ t20 : Sl, (e = .returned (.slice t20.a t20.len t20.cap)) ∧
    (S w_3) ∧
    ∃ w_4 : World, ∃ t21 : Sl, ((Builtin.append_ #[42, 42] 42 #[.slice t16.a t16.len t16.cap, .slice t20.a t20.len t20.cap]).run Tryz.prog w_3 = .ok (.slice t21.a t21.len t21.cap) w_4) ∧
    NilP w0 fun a_t22 =>
    ∃ w_5 : World, ((Instr.storeAt 42 (.pointer ((some (Addr.add a_t22 0)))) (.slice t21.a t21.len t21.cap)).run Tryz.prog w_4 = .ok () w_5) ∧
    (I (IntKind.i64.wrap (t8 + 1)) w_5) ∧ μ (IntKind.i64.wrap (t8 + 1)) w_5 < μ t8 w_1))
   (K (.tuple #[]) w_1)
def sk49 : Sk := (.seq .leaf (.block (.loop [8] [(.int .i64)] [5, 8, 9, 10, 11, 12, 13, 14, 15, 16, 17, 18, 19, 20, 21, 22, 23, 24] .leaf)))
theorem ok49 : fnOk Tryz.prog Tryz.f49.ntmps Tryz.f49 sk49 = true := by kernel_rfl
theorem eq49 (w0 : Option Addr) (l1 : Sl) (K : Value → World → Prop) (w : World) : fnF Tryz.prog cl Tryz.f49 sk49 [.pointer w0, .slice l1.a l1.len l1.cap] K w = B49 w0 l1 K w := by kernel_rfl
theorem call49 (w0 : Option Addr) (l1 : Sl) (K : Value → World → Prop) (w : World) (h : B49 w0 l1 K w) : Gets Tryz.prog 49 #[.pointer w0, .slice l1.a l1.len l1.cap] w K :=
  calls_of (sk := sk49) cl_ok mixed Tryz.func49 ok49 (args := [.pointer w0, .slice l1.a l1.len l1.cap]) (Nat.le_of_ble_eq_true (by kernel_rfl)) (by rw [eq49]; exact h)
def B75 (w0 : Option Addr) (l1 : Sl) (K : Value → World → Prop) (w : World) : Prop :=
  New (.cells #[.int .i64 ((↑l1.len : Int))] 3 (0, 0)) (fun b_t7 w_1 =>
  Calls Tryz.prog 49 #[.pointer w0, .slice ((some ⟨b_t7, 0, none⟩)) 1 1] w_1 fun e w_2 =>
  (e = .returned (.tuple #[])) ∧
  Calls Tryz.prog 49 #[.pointer w0, .slice l1.a l1.len l1.cap] w_2 fun e_1 w_3 =>
  (e_1 = .returned (.tuple #[])) ∧
  K (.tuple #[]) w_3) w
def sk75 : Sk := .leaf
theorem ok75 : fnOk Tryz.prog Tryz.f75.ntmps Tryz.f75 sk75 = true := by kernel_rfl
theorem eq75 (w0 : Option Addr) (l1 : Sl) (K : Value → World → Prop) (w : World) : fnF Tryz.prog cl Tryz.f75 sk75 [.pointer w0, .slice l1.a l1.len l1.cap] K w = B75 w0 l1 K w := by kernel_rfl
theorem call75 (w0 : Option Addr) (l1 : Sl) (K : Value → World → Prop) (w : World) (h : B75 w0 l1 K w) : Gets Tryz.prog 75 #[.pointer w0, .slice l1.a l1.len l1.cap] w K :=
  calls_of (sk := sk75) cl_ok mixed Tryz.func75 ok75 (args := [.pointer w0, .slice l1.a l1.len l1.cap]) (Nat.le_of_ble_eq_true (by kernel_rfl)) (by rw [eq75]; exact h)
def B52 (w0 : Option Addr) (b1 : Sl) (K : Value → World → Prop) (w : World) : Prop :=
  Drw w fun S w_1 =>
  NilP w0 fun a_t6 =>
  ∃ t8 : Sl, (At S (Addr.add a_t6 0) [.slice t8.a t8.len t8.cap]) ∧
  Calls Tryz.prog 124 #[.slice b1.a b1.len b1.cap] w_1 fun e w_2 =>
  ∃ t10 : Sl, (e = .returned (.slice t10.a t10.len t10.cap)) ∧
  (S w_2) ∧
  ∃ w_3 : World, ∃ t11 : Sl, ((Builtin.append_ #[42, 42] 42 #[.slice t8.a t8.len t8.cap, .slice t10.a t10.len t10.cap]).run Tryz.prog w_2 = .ok (.slice t11.a t11.len t11.cap) w_3) ∧
  NilP w0 fun a_t12 =>
  ∃ w_4 : World, ((Instr.storeAt 42 (.pointer ((some (Addr.add a_t12 0)))) (.slice t11.a t11.len t11.cap)).run Tryz.prog w_3 = .ok () w_4) ∧
  K (.tuple #[]) w_4
def sk52 : Sk := .leaf
theorem ok52 : fnOk Tryz.prog Tryz.f52.ntmps Tryz.f52 sk52 = true := by kernel_rfl
theorem eq52 (w0 : Option Addr) (b1 : Sl) (K : Value → World → Prop) (w : World) : fnF Tryz.prog cl Tryz.f52 sk52 [.pointer w0, .slice b1.a b1.len b1.cap] K w = B52 w0 b1 K w := by kernel_rfl
theorem call52 (w0 : Option Addr) (b1 : Sl) (K : Value → World → Prop) (w : World) (h : B52 w0 b1 K w) : Gets Tryz.prog 52 #[.pointer w0, .slice b1.a b1.len b1.cap] w K :=
  calls_of (sk := sk52) cl_ok mixed Tryz.func52 ok52 (args := [.pointer w0, .slice b1.a b1.len b1.cap]) (Nat.le_of_ble_eq_true (by kernel_rfl)) (by rw [eq52]; exact h)
def B78 (r0_0 : Option Addr) (most1 : Int) (K : Value → World → Prop) (w : World) : Prop :=
  New (.cells #[.pointer r0_0] 126 (0, 0)) (fun b_r2 w_1 =>
  ∃ t6 : Option Addr, (At (fun w' => w' = w_1) ⟨b_r2, 0, none⟩ [.pointer t6]) ∧
  Calls Tryz.prog 147 #[.pointer t6, .int .u64 (IntKind.u64.wrap most1)] w_1 fun e w_2 =>
  ∃ t9 : Int, (e = .returned (.int .u64 t9)) ∧
  K (.int .i64 (IntKind.i64.wrap t9)) w_2) w
def sk78 : Sk := .leaf
theorem ok78 : fnOk Tryz.prog Tryz.f78.ntmps Tryz.f78 sk78 = true := by kernel_rfl
theorem eq78 (r0_0 : Option Addr) (most1 : Int) (K : Value → World → Prop) (w : World) : fnF Tryz.prog cl Tryz.f78 sk78 [.agg #[.pointer r0_0], .int .i64 most1] K w = B78 r0_0 most1 K w := by kernel_rfl
theorem call78 (r0_0 : Option Addr) (most1 : Int) (K : Value → World → Prop) (w : World) (h : B78 r0_0 most1 K w) : Gets Tryz.prog 78 #[.agg #[.pointer r0_0], .int .i64 most1] w K :=
  calls_of (sk := sk78) cl_ok mixed Tryz.func78 ok78 (args := [.agg #[.pointer r0_0], .int .i64 most1]) (Nat.le_of_ble_eq_true (by kernel_rfl)) (by rw [eq78]; exact h)
def B79 (r0_0 : Option Addr) (most1 : Int) (K : Value → World → Prop) (w : World) : Prop :=
  New (.cells #[.pointer r0_0] 126 (0, 0)) (fun b_r2 w_1 =>
  ∃ t6 : Option Addr, (At (fun w' => w' = w_1) ⟨b_r2, 0, none⟩ [.pointer t6]) ∧
  Calls Tryz.prog 102 #[.pointer t6, .int .i64 most1] w_1 fun e w_2 =>
  ∃ t8 : Sl, (e = .returned (.slice t8.a t8.len t8.cap)) ∧
  ∃ t9 : ByteArray, (∀ w', (fun w' => w' = w_2) w' → ((convert 42 9 (.slice t8.a t8.len t8.cap))).run Tryz.prog w' = .ok (.string t9) w') ∧
  K (.string t9) w_2) w
def sk79 : Sk := .leaf
theorem ok79 : fnOk Tryz.prog Tryz.f79.ntmps Tryz.f79 sk79 = true := by kernel_rfl
theorem eq79 (r0_0 : Option Addr) (most1 : Int) (K : Value → World → Prop) (w : World) : fnF Tryz.prog cl Tryz.f79 sk79 [.agg #[.pointer r0_0], .int .i64 most1] K w = B79 r0_0 most1 K w := by kernel_rfl
theorem call79 (r0_0 : Option Addr) (most1 : Int) (K : Value → World → Prop) (w : World) (h : B79 r0_0 most1 K w) : Gets Tryz.prog 79 #[.agg #[.pointer r0_0], .int .i64 most1] w K :=
  calls_of (sk := sk79) cl_ok mixed Tryz.func79 ok79 (args := [.agg #[.pointer r0_0], .int .i64 most1]) (Nat.le_of_ble_eq_true (by kernel_rfl)) (by rw [eq79]; exact h)
def B80 (n0 : Int) (one1 : Value) (K : Value → World → Prop) (w : World) : Prop :=
  ∃ (I : Sl → Int → World → Prop) (μ : Sl → Int → World → Nat), (I ⟨none, 0, 0⟩ 0 w) ∧ ∀ (z : Env) (out5 : Sl) (t7 : Int) (w_1 : World), I out5 t7 w_1 →
  Br (decide (t7 < n0))
   (CalW Tryz.prog cl one1 [] w_1 fun e w_2 =>
    ∃ t11 : Int, (e = .returned (.int .i64 t11)) ∧
    New (.cells #[.int .i64 t11] 3 (0, 0)) (fun b_t12 w_3 =>
    ∃ w_4 : World, ∃ t13 : Sl, ((Builtin.append_ #[28, 28] 28 #[.slice out5.a out5.len out5.cap, .slice ((some ⟨b_t12, 0, none⟩)) 1 1]).run Tryz.prog w_3 = .ok (.slice t13.a t13.len t13.cap) w_4) ∧
    (I t13 (IntKind.i64.wrap (t7 + 1)) w_4) ∧ μ t13 (IntKind.i64.wrap (t7 + 1)) w_4 < μ out5 t7 w_1) w_2)
   (K (.slice out5.a out5.len out5.cap) w_1)
def sk80 : Sk := (.seq .leaf (.seq .leaf (.seq (.seq .leaf (.block (.loop [5, 7] [.sl, (.int .i64)] [5, 7, 8, 9, 10, 11, 12, 13, 14] .leaf))) .leaf)))
theorem ok80 : fnOk Tryz.prog Tryz.f80.ntmps Tryz.f80 sk80 = true := by kernel_rfl
theorem eq80 (n0 : Int) (one1 : Value) (K : Value → World → Prop) (w : World) : fnF Tryz.prog cl Tryz.f80 sk80 [.int .i64 n0, one1] K w = B80 n0 one1 K w := by kernel_rfl
theorem call80 (n0 : Int) (one1 : Value) (K : Value → World → Prop) (w : World) (h : B80 n0 one1 K w) : Gets Tryz.prog 80 #[.int .i64 n0, one1] w K :=
  calls_of (sk := sk80) cl_ok mixed Tryz.func80 ok80 (args := [.int .i64 n0, one1]) (Nat.le_of_ble_eq_true (by kernel_rfl)) (by rw [eq80]; exact h)
def B81 (n0 : Int) (one1 : Value) (K : Value → World → Prop) (w : World) : Prop :=
  ∃ (I : Sl → Int → World → Prop) (μ : Sl → Int → World → Nat), (I ⟨none, 0, 0⟩ 0 w) ∧ ∀ (z : Env) (out5 : Sl) (t7 : Int) (w_1 : World), I out5 t7 w_1 →
  Br (decide (t7 < n0))
   (CalW Tryz.prog cl one1 [] w_1 fun e w_2 =>
    ∃ t11 : ByteArray, (e = .returned (.string t11)) ∧
    New (.cells #[.string t11] 9 (0, 0)) (fun b_t12 w_3 =>
    ∃ w_4 : World, ∃ t13 : Sl, ((Builtin.append_ #[29, 29] 29 #[.slice out5.a out5.len out5.cap, .slice ((some ⟨b_t12, 0, none⟩)) 1 1]).run Tryz.prog w_3 = .ok (.slice t13.a t13.len t13.cap) w_4) ∧
    (I t13 (IntKind.i64.wrap (t7 + 1)) w_4) ∧ μ t13 (IntKind.i64.wrap (t7 + 1)) w_4 < μ out5 t7 w_1) w_2)
   (K (.slice out5.a out5.len out5.cap) w_1)
def sk81 : Sk := (.seq .leaf (.seq .leaf (.seq (.seq .leaf (.block (.loop [5, 7] [.sl, (.int .i64)] [5, 7, 8, 9, 10, 11, 12, 13, 14] .leaf))) .leaf)))
theorem ok81 : fnOk Tryz.prog Tryz.f81.ntmps Tryz.f81 sk81 = true := by kernel_rfl
theorem eq81 (n0 : Int) (one1 : Value) (K : Value → World → Prop) (w : World) : fnF Tryz.prog cl Tryz.f81 sk81 [.int .i64 n0, one1] K w = B81 n0 one1 K w := by kernel_rfl
theorem call81 (n0 : Int) (one1 : Value) (K : Value → World → Prop) (w : World) (h : B81 n0 one1 K w) : Gets Tryz.prog 81 #[.int .i64 n0, one1] w K :=
  calls_of (sk := sk81) cl_ok mixed Tryz.func81 ok81 (args := [.int .i64 n0, one1]) (Nat.le_of_ble_eq_true (by kernel_rfl)) (by rw [eq81]; exact h)
def B25 (r0_0 : Int) (r0_1 : ByteArray) (r0_2 : Int) (r0_3 : Int) (r0_4 : Int) (r0_5 : Int) (r0_6 : Int) (r0_7 : Sl) (r0_8 : Sl) (K : Value → World → Prop) (w : World) : Prop :=
  New (.cells #[.int .i64 r0_0, .string r0_1, .int .i64 r0_2, .int .i64 r0_3, .int .i64 r0_4, .int .i64 r0_5, .int .i64 r0_6, .slice r0_7.a r0_7.len r0_7.cap, .slice r0_8.a r0_8.len r0_8.cap] 31 (0, 0)) (fun b_r1 w_1 =>
  New (.cells #[.slice none 0 0] 93 (0, 0)) (fun b_t7 w_2 =>
  ∃ t10 : Int, (At (fun w' => w' = w_2) ⟨b_r1, 0, none⟩ [.int .i64 t10]) ∧
  New (.cells #[.int .i64 t10] 3 (0, 0)) (fun b_t11 w_3 =>
  Calls Tryz.prog 49 #[.pointer ((some ⟨b_t7, 0, none⟩)), .slice ((some ⟨b_t11, 0, none⟩)) 1 1] w_3 fun e w_4 =>
  (e = .returned (.tuple #[])) ∧
  ∃ t15 : ByteArray, (At (fun w' => w' = w_4) ⟨b_r1, 0 + 1, none⟩ [.string t15]) ∧
  ∃ w_5 : World, ∃ t16 : Sl, ((convert 9 42 (.string t15)).run Tryz.prog w_4 = .ok (.slice t16.a t16.len t16.cap) w_5) ∧
  Calls Tryz.prog 52 #[.pointer ((some ⟨b_t7, 0, none⟩)), .slice t16.a t16.len t16.cap] w_5 fun e_1 w_6 =>
  (e_1 = .returned (.tuple #[])) ∧
  ∃ t20 : Int, (At (fun w' => w' = w_6) ⟨b_r1, 0 + 2, none⟩ [.int .i64 t20]) ∧
  ∃ t22 : Int, (At (fun w' => w' = w_6) ⟨b_r1, 0 + 3, none⟩ [.int .i64 t22]) ∧
  ∃ t24 : Int, (At (fun w' => w' = w_6) ⟨b_r1, 0 + 4, none⟩ [.int .i64 t24]) ∧
  ∃ t26 : Int, (At (fun w' => w' = w_6) ⟨b_r1, 0 + 5, none⟩ [.int .i64 t26]) ∧
  ∃ t28 : Int, (At (fun w' => w' = w_6) ⟨b_r1, 0 + 6, none⟩ [.int .i64 t28]) ∧
  New (.cells #[.int .i64 t20, .int .i64 t22, .int .i64 t24, .int .i64 t26, .int .i64 t28] 3 (0, 0)) (fun b_t29 w_7 =>
  Calls Tryz.prog 49 #[.pointer ((some ⟨b_t7, 0, none⟩)), .slice ((some ⟨b_t29, 0, none⟩)) 5 5] w_7 fun e_2 w_8 =>
  (e_2 = .returned (.tuple #[])) ∧
  ∃ t33 : Sl, (At (fun w' => w' = w_8) ⟨b_r1, 0 + 7, none⟩ [.slice t33.a t33.len t33.cap]) ∧
  Calls Tryz.prog 75 #[.pointer ((some ⟨b_t7, 0, none⟩)), .slice t33.a t33.len t33.cap] w_8 fun e_3 w_9 =>
  (e_3 = .returned (.tuple #[])) ∧
  ∃ t37 : Sl, (At (fun w' => w' = w_9) ⟨b_r1, 0 + 8, none⟩ [.slice t37.a t37.len t37.cap]) ∧
  New (.cells #[.int .i64 ((↑t37.len : Int))] 3 (0, 0)) (fun b_t39 w_10 =>
  Calls Tryz.prog 49 #[.pointer ((some ⟨b_t7, 0, none⟩)), .slice ((some ⟨b_t39, 0, none⟩)) 1 1] w_10 fun e_4 w_11 =>
  (e_4 = .returned (.tuple #[])) ∧
  ∃ t42 : Sl, (At (fun w' => w' = w_11) ⟨b_r1, 0 + 8, none⟩ [.slice t42.a t42.len t42.cap]) ∧
  ∃ (I : Int → World → Prop) (μ : Int → World → Nat), (I 0 w_11) ∧ ∀ (z : Env) (t44 : Int) (w_12 : World), I t44 w_12 →
  Br (decide (t44 < (↑t42.len : Int)))
   (Rng t44 t42.len (NilP t42.a fun a_t46 =>
    ∃ t47 : ByteArray, (At (fun w' => w' = w_12) (Addr.add a_t46 t44.toNat) [.string t47]) ∧
    ∃ w_13 : World, ∃ t50 : Sl, ((convert 9 42 (.string t47)).run Tryz.prog w_12 = .ok (.slice t50.a t50.len t50.cap) w_13) ∧
    Calls Tryz.prog 52 #[.pointer ((some ⟨b_t7, 0, none⟩)), .slice t50.a t50.len t50.cap] w_13 fun e_5 w_14 =>
    (e_5 = .returned (.tuple #[])) ∧
    (I (IntKind.i64.wrap (t44 + 1)) w_14) ∧ μ (IntKind.i64.wrap (t44 + 1)) w_14 < μ t44 w_12))
   (∃ t56 : Sl, (At (fun w' => w' = w_12) ⟨b_t7, 0, none⟩ [.slice t56.a t56.len t56.cap]) ∧
    K (.slice t56.a t56.len t56.cap) w_12)) w_9) w_6) w_2) w_1) w
def sk25 : Sk := (.seq .leaf (.seq .leaf (.seq .leaf (.seq .leaf (.seq .leaf (.seq .leaf (.seq .leaf (.seq (.seq .leaf (.block (.loop [44] [(.int .i64)] [5, 44, 45, 46, 47, 48, 49, 50, 51, 52] .leaf))) .leaf))))))))
theorem ok25 : fnOk Tryz.prog Tryz.f25.ntmps Tryz.f25 sk25 = true := by kernel_rfl
theorem eq25 (r0_0 : Int) (r0_1 : ByteArray) (r0_2 : Int) (r0_3 : Int) (r0_4 : Int) (r0_5 : Int) (r0_6 : Int) (r0_7 : Sl) (r0_8 : Sl) (K : Value → World → Prop) (w : World) : fnF Tryz.prog cl Tryz.f25 sk25 [.agg #[.int .i64 r0_0, .string r0_1, .int .i64 r0_2, .int .i64 r0_3, .int .i64 r0_4, .int .i64 r0_5, .int .i64 r0_6, .slice r0_7.a r0_7.len r0_7.cap, .slice r0_8.a r0_8.len r0_8.cap]] K w = B25 r0_0 r0_1 r0_2 r0_3 r0_4 r0_5 r0_6 r0_7 r0_8 K w := by kernel_rfl
theorem call25 (r0_0 : Int) (r0_1 : ByteArray) (r0_2 : Int) (r0_3 : Int) (r0_4 : Int) (r0_5 : Int) (r0_6 : Int) (r0_7 : Sl) (r0_8 : Sl) (K : Value → World → Prop) (w : World) (h : B25 r0_0 r0_1 r0_2 r0_3 r0_4 r0_5 r0_6 r0_7 r0_8 K w) : Gets Tryz.prog 25 #[.agg #[.int .i64 r0_0, .string r0_1, .int .i64 r0_2, .int .i64 r0_3, .int .i64 r0_4, .int .i64 r0_5, .int .i64 r0_6, .slice r0_7.a r0_7.len r0_7.cap, .slice r0_8.a r0_8.len r0_8.cap]] w K :=
  calls_of (sk := sk25) cl_ok mixed Tryz.func25 ok25 (args := [.agg #[.int .i64 r0_0, .string r0_1, .int .i64 r0_2, .int .i64 r0_3, .int .i64 r0_4, .int .i64 r0_5, .int .i64 r0_6, .slice r0_7.a r0_7.len r0_7.cap, .slice r0_8.a r0_8.len r0_8.cap]]) (Nat.le_of_ble_eq_true (by kernel_rfl)) (by rw [eq25]; exact h)
def B26 (b0 : Sl) (K : Value → World → Prop) (w : World) : Prop :=
  New (.cells #[.int .i64 0, .string (ByteArray.mk #[]), .int .i64 0, .int .i64 0, .int .i64 0, .int .i64 0, .int .i64 0, .slice none 0 0, .slice none 0 0] 31 (0, 0)) (fun b_t2 w_1 =>
  Calls Tryz.prog 76 #[.slice b0.a b0.len b0.cap] w_1 fun e w_2 =>
  ∃ t8 : Option Addr, (e = .returned (.pointer t8)) ∧
  New (.cells #[.pointer none] 126 (0, 0)) (fun b_r4 w_3 =>
  ∃ w_4 : World, ((Instr.storeAt 126 (.pointer ((some ⟨b_r4, 0, none⟩))) (.agg #[.pointer t8])).run Tryz.prog w_3 = .ok () w_4) ∧
  ∃ (J : Option Addr → World → Prop), (Drw w_4 fun S w_5 =>
    ∃ t13 : Option Addr, (At S ⟨b_r4, 0, none⟩ [.pointer t13]) ∧
    (Calls Tryz.prog 77 #[.pointer ((some ⟨b_r4, 0, none⟩))] w_5 fun e_1 w_6 =>
    ∃ t12 : Int, (e_1 = .returned (.int .i64 t12)) ∧
    (S w_6) ∧
    (Calls Tryz.prog 79 #[.agg #[.pointer t13], .int .i64 16] w_6 fun e_2 w_7 =>
    ∃ t14 : ByteArray, (e_2 = .returned (.string t14)) ∧
    (Calls Tryz.prog 77 #[.pointer ((some ⟨b_r4, 0, none⟩))] w_7 fun e_3 w_8 =>
    ∃ t16 : Int, (e_3 = .returned (.int .i64 t16)) ∧
    (S w_8) ∧
    (Calls Tryz.prog 77 #[.pointer ((some ⟨b_r4, 0, none⟩))] w_8 fun e_4 w_9 =>
    ∃ t18 : Int, (e_4 = .returned (.int .i64 t18)) ∧
    (S w_9) ∧
    (Calls Tryz.prog 77 #[.pointer ((some ⟨b_r4, 0, none⟩))] w_9 fun e_5 w_10 =>
    ∃ t20 : Int, (e_5 = .returned (.int .i64 t20)) ∧
    (S w_10) ∧
    (Calls Tryz.prog 77 #[.pointer ((some ⟨b_r4, 0, none⟩))] w_10 fun e_6 w_11 =>
    ∃ t22 : Int, (e_6 = .returned (.int .i64 t22)) ∧
    (S w_11) ∧
    (Calls Tryz.prog 77 #[.pointer ((some ⟨b_r4, 0, none⟩))] w_11 fun e_7 w_12 =>
    ∃ t24 : Int, (e_7 = .returned (.int .i64 t24)) ∧
    (S w_12) ∧
    New (.cells #[.int .i64 0, .string (ByteArray.mk #[]), .int .i64 0, .int .i64 0, .int .i64 0, .int .i64 0, .int .i64 0, .slice none 0 0, .slice none 0 0] 31 (0, 0)) (fun b_x6 w_13 =>
    (S w_13) ∧
    ∃ w_14 : World, ((Instr.storeAt 31 (.pointer ((some ⟨b_x6, 0, none⟩))) (.agg #[.int .i64 t12, .string t14, .int .i64 t16, .int .i64 t18, .int .i64 t20, .int .i64 t22, .int .i64 t24, .slice none 0 0, .slice none 0 0])).run Tryz.prog w_13 = .ok () w_14) ∧
    J ((some ⟨b_x6, 0, none⟩)) w_14) w_12) ∧
    New (.cells #[.int .i64 0, .string (ByteArray.mk #[]), .int .i64 0, .int .i64 0, .int .i64 0, .int .i64 0, .int .i64 0, .slice none 0 0, .slice none 0 0] 31 (0, 0)) (fun b_x6_1 w_15 =>
    (S w_15) ∧
    Calls Tryz.prog 77 #[.pointer ((some ⟨b_r4, 0, none⟩))] w_15 fun e_8 w_16 =>
    ∃ t24_1 : Int, (e_8 = .returned (.int .i64 t24_1)) ∧
    (S w_16) ∧
    ∃ w_17 : World, ((Instr.storeAt 31 (.pointer ((some ⟨b_x6_1, 0, none⟩))) (.agg #[.int .i64 t12, .string t14, .int .i64 t16, .int .i64 t18, .int .i64 t20, .int .i64 t22, .int .i64 t24_1, .slice none 0 0, .slice none 0 0])).run Tryz.prog w_16 = .ok () w_17) ∧
    J ((some ⟨b_x6_1, 0, none⟩)) w_17) w_11) ∧
    New (.cells #[.int .i64 0, .string (ByteArray.mk #[]), .int .i64 0, .int .i64 0, .int .i64 0, .int .i64 0, .int .i64 0, .slice none 0 0, .slice none 0 0] 31 (0, 0)) (fun b_x6_2 w_18 =>
    (S w_18) ∧
    Calls Tryz.prog 77 #[.pointer ((some ⟨b_r4, 0, none⟩))] w_18 fun e_9 w_19 =>
    ∃ t22_1 : Int, (e_9 = .returned (.int .i64 t22_1)) ∧
    (S w_19) ∧
    Calls Tryz.prog 77 #[.pointer ((some ⟨b_r4, 0, none⟩))] w_19 fun e_10 w_20 =>
    ∃ t24_2 : Int, (e_10 = .returned (.int .i64 t24_2)) ∧
    (S w_20) ∧
    ∃ w_21 : World, ((Instr.storeAt 31 (.pointer ((some ⟨b_x6_2, 0, none⟩))) (.agg #[.int .i64 t12, .string t14, .int .i64 t16, .int .i64 t18, .int .i64 t20, .int .i64 t22_1, .int .i64 t24_2, .slice none 0 0, .slice none 0 0])).run Tryz.prog w_20 = .ok () w_21) ∧
    J ((some ⟨b_x6_2, 0, none⟩)) w_21) w_10) ∧
    New (.cells #[.int .i64 0, .string (ByteArray.mk #[]), .int .i64 0, .int .i64 0, .int .i64 0, .int .i64 0, .int .i64 0, .slice none 0 0, .slice none 0 0] 31 (0, 0)) (fun b_x6_3 w_22 =>
    (S w_22) ∧
    Calls Tryz.prog 77 #[.pointer ((some ⟨b_r4, 0, none⟩))] w_22 fun e_11 w_23 =>
    ∃ t20_1 : Int, (e_11 = .returned (.int .i64 t20_1)) ∧
    (S w_23) ∧
    Calls Tryz.prog 77 #[.pointer ((some ⟨b_r4, 0, none⟩))] w_23 fun e_12 w_24 =>
    ∃ t22_2 : Int, (e_12 = .returned (.int .i64 t22_2)) ∧
    (S w_24) ∧
    Calls Tryz.prog 77 #[.pointer ((some ⟨b_r4, 0, none⟩))] w_24 fun e_13 w_25 =>
    ∃ t24_3 : Int, (e_13 = .returned (.int .i64 t24_3)) ∧
    (S w_25) ∧
    ∃ w_26 : World, ((Instr.storeAt 31 (.pointer ((some ⟨b_x6_3, 0, none⟩))) (.agg #[.int .i64 t12, .string t14, .int .i64 t16, .int .i64 t18, .int .i64 t20_1, .int .i64 t22_2, .int .i64 t24_3, .slice none 0 0, .slice none 0 0])).run Tryz.prog w_25 = .ok () w_26) ∧
    J ((some ⟨b_x6_3, 0, none⟩)) w_26) w_9) ∧
    New (.cells #[.int .i64 0, .string (ByteArray.mk #[]), .int .i64 0, .int .i64 0, .int .i64 0, .int .i64 0, .int .i64 0, .slice none 0 0, .slice none 0 0] 31 (0, 0)) (fun b_x6_4 w_27 =>
    (S w_27) ∧
    Calls Tryz.prog 77 #[.pointer ((some ⟨b_r4, 0, none⟩))] w_27 fun e_14 w_28 =>
    ∃ t18_1 : Int, (e_14 = .returned (.int .i64 t18_1)) ∧
    (S w_28) ∧
    Calls Tryz.prog 77 #[.pointer ((some ⟨b_r4, 0, none⟩))] w_28 fun e_15 w_29 =>
    ∃ t20_2 : Int, (e_15 = .returned (.int .i64 t20_2)) ∧
    (S w_29) ∧
    Calls Tryz.prog 77 #[.pointer ((some ⟨b_r4, 0, none⟩))] w_29 fun e_16 w_30 =>
    ∃ t22_3 : Int, (e_16 = .returned (.int .i64 t22_3)) ∧
    (S w_30) ∧
    Calls Tryz.prog 77 #[.pointer ((some ⟨b_r4, 0, none⟩))] w_30 fun e_17 w_31 =>
    ∃ t24_4 : Int, (e_17 = .returned (.int .i64 t24_4)) ∧
    (S w_31) ∧
    ∃ w_32 : World, ((Instr.storeAt 31 (.pointer ((some ⟨b_x6_4, 0, none⟩))) (.agg #[.int .i64 t12, .string t14, .int .i64 t16, .int .i64 t18_1, .int .i64 t20_2, .int .i64 t22_3, .int .i64 t24_4, .slice none 0 0, .slice none 0 0])).run Tryz.prog w_31 = .ok () w_32) ∧
    J ((some ⟨b_x6_4, 0, none⟩)) w_32) w_8) ∧
    New (.cells #[.int .i64 0, .string (ByteArray.mk #[]), .int .i64 0, .int .i64 0, .int .i64 0, .int .i64 0, .int .i64 0, .slice none 0 0, .slice none 0 0] 31 (0, 0)) (fun b_x6_5 w_33 =>
    (S w_33) ∧
    Calls Tryz.prog 77 #[.pointer ((some ⟨b_r4, 0, none⟩))] w_33 fun e_18 w_34 =>
    ∃ t16_1 : Int, (e_18 = .returned (.int .i64 t16_1)) ∧
    (S w_34) ∧
    Calls Tryz.prog 77 #[.pointer ((some ⟨b_r4, 0, none⟩))] w_34 fun e_19 w_35 =>
    ∃ t18_2 : Int, (e_19 = .returned (.int .i64 t18_2)) ∧
    (S w_35) ∧
    Calls Tryz.prog 77 #[.pointer ((some ⟨b_r4, 0, none⟩))] w_35 fun e_20 w_36 =>
    ∃ t20_3 : Int, (e_20 = .returned (.int .i64 t20_3)) ∧
    (S w_36) ∧
    Calls Tryz.prog 77 #[.pointer ((some ⟨b_r4, 0, none⟩))] w_36 fun e_21 w_37 =>
    ∃ t22_4 : Int, (e_21 = .returned (.int .i64 t22_4)) ∧
    (S w_37) ∧
    Calls Tryz.prog 77 #[.pointer ((some ⟨b_r4, 0, none⟩))] w_37 fun e_22 w_38 =>
    ∃ t24_5 : Int, (e_22 = .returned (.int .i64 t24_5)) ∧
    (S w_38) ∧
    ∃ w_39 : World, ((Instr.storeAt 31 (.pointer ((some ⟨b_x6_5, 0, none⟩))) (.agg #[.int .i64 t12, .string t14, .int .i64 t16_1, .int .i64 t18_2, .int .i64 t20_3, .int .i64 t22_4, .int .i64 t24_5, .slice none 0 0, .slice none 0 0])).run Tryz.prog w_38 = .ok () w_39) ∧
    J ((some ⟨b_x6_5, 0, none⟩)) w_39) w_7) ∧
    New (.cells #[.int .i64 0, .string (ByteArray.mk #[]), .int .i64 0, .int .i64 0, .int .i64 0, .int .i64 0, .int .i64 0, .slice none 0 0, .slice none 0 0] 31 (0, 0)) (fun b_x6_6 w_40 =>
    (S w_40) ∧
    Calls Tryz.prog 79 #[.agg #[.pointer t13], .int .i64 16] w_40 fun e_23 w_41 =>
    ∃ t14_1 : ByteArray, (e_23 = .returned (.string t14_1)) ∧
    Calls Tryz.prog 77 #[.pointer ((some ⟨b_r4, 0, none⟩))] w_41 fun e_24 w_42 =>
    ∃ t16_2 : Int, (e_24 = .returned (.int .i64 t16_2)) ∧
    (S w_42) ∧
    Calls Tryz.prog 77 #[.pointer ((some ⟨b_r4, 0, none⟩))] w_42 fun e_25 w_43 =>
    ∃ t18_3 : Int, (e_25 = .returned (.int .i64 t18_3)) ∧
    (S w_43) ∧
    Calls Tryz.prog 77 #[.pointer ((some ⟨b_r4, 0, none⟩))] w_43 fun e_26 w_44 =>
    ∃ t20_4 : Int, (e_26 = .returned (.int .i64 t20_4)) ∧
    (S w_44) ∧
    Calls Tryz.prog 77 #[.pointer ((some ⟨b_r4, 0, none⟩))] w_44 fun e_27 w_45 =>
    ∃ t22_5 : Int, (e_27 = .returned (.int .i64 t22_5)) ∧
    (S w_45) ∧
    Calls Tryz.prog 77 #[.pointer ((some ⟨b_r4, 0, none⟩))] w_45 fun e_28 w_46 =>
    ∃ t24_6 : Int, (e_28 = .returned (.int .i64 t24_6)) ∧
    (S w_46) ∧
    ∃ w_47 : World, ((Instr.storeAt 31 (.pointer ((some ⟨b_x6_6, 0, none⟩))) (.agg #[.int .i64 t12, .string t14_1, .int .i64 t16_2, .int .i64 t18_3, .int .i64 t20_4, .int .i64 t22_5, .int .i64 t24_6, .slice none 0 0, .slice none 0 0])).run Tryz.prog w_46 = .ok () w_47) ∧
    J ((some ⟨b_x6_6, 0, none⟩)) w_47) w_6) ∧
    New (.cells #[.int .i64 0, .string (ByteArray.mk #[]), .int .i64 0, .int .i64 0, .int .i64 0, .int .i64 0, .int .i64 0, .slice none 0 0, .slice none 0 0] 31 (0, 0)) (fun b_x6_7 w_48 =>
    (S w_48) ∧
    Calls Tryz.prog 77 #[.pointer ((some ⟨b_r4, 0, none⟩))] w_48 fun e_29 w_49 =>
    ∃ t12_1 : Int, (e_29 = .returned (.int .i64 t12_1)) ∧
    (S w_49) ∧
    Calls Tryz.prog 79 #[.agg #[.pointer t13], .int .i64 16] w_49 fun e_30 w_50 =>
    ∃ t14_2 : ByteArray, (e_30 = .returned (.string t14_2)) ∧
    Calls Tryz.prog 77 #[.pointer ((some ⟨b_r4, 0, none⟩))] w_50 fun e_31 w_51 =>
    ∃ t16_3 : Int, (e_31 = .returned (.int .i64 t16_3)) ∧
    (S w_51) ∧
    Calls Tryz.prog 77 #[.pointer ((some ⟨b_r4, 0, none⟩))] w_51 fun e_32 w_52 =>
    ∃ t18_4 : Int, (e_32 = .returned (.int .i64 t18_4)) ∧
    (S w_52) ∧
    Calls Tryz.prog 77 #[.pointer ((some ⟨b_r4, 0, none⟩))] w_52 fun e_33 w_53 =>
    ∃ t20_5 : Int, (e_33 = .returned (.int .i64 t20_5)) ∧
    (S w_53) ∧
    Calls Tryz.prog 77 #[.pointer ((some ⟨b_r4, 0, none⟩))] w_53 fun e_34 w_54 =>
    ∃ t22_6 : Int, (e_34 = .returned (.int .i64 t22_6)) ∧
    (S w_54) ∧
    Calls Tryz.prog 77 #[.pointer ((some ⟨b_r4, 0, none⟩))] w_54 fun e_35 w_55 =>
    ∃ t24_7 : Int, (e_35 = .returned (.int .i64 t24_7)) ∧
    (S w_55) ∧
    ∃ w_56 : World, ((Instr.storeAt 31 (.pointer ((some ⟨b_x6_7, 0, none⟩))) (.agg #[.int .i64 t12_1, .string t14_2, .int .i64 t16_3, .int .i64 t18_4, .int .i64 t20_5, .int .i64 t22_6, .int .i64 t24_7, .slice none 0 0, .slice none 0 0])).run Tryz.prog w_55 = .ok () w_56) ∧
    J ((some ⟨b_x6_7, 0, none⟩)) w_56) w_5) ∧
  ∀ (z : Env) (x6 : Option Addr) (w_57 : World), J x6 w_57 →
  ∃ t26 : Option Addr, (At (fun w' => w' = w_57) ⟨b_r4, 0, none⟩ [.pointer t26]) ∧
  Calls Tryz.prog 78 #[.agg #[.pointer t26], .int .i64 8] w_57 fun e_36 w_58 =>
  ∃ t27 : Int, (e_36 = .returned (.int .i64 t27)) ∧
  Calls Tryz.prog 80 #[.int .i64 t27, .func (.func 77) #[] #[.pointer ((some ⟨b_r4, 0, none⟩))]] w_58 fun e_37 w_59 =>
  ∃ t29 : Sl, (e_37 = .returned (.slice t29.a t29.len t29.cap)) ∧
  NilP x6 fun a_t30 =>
  ∃ w_60 : World, ((Instr.storeAt 28 (.pointer ((some ⟨a_t30.block, a_t30.off + 7, none⟩))) (.slice t29.a t29.len t29.cap)).run Tryz.prog w_59 = .ok () w_60) ∧
  ∃ t31 : Option Addr, (At (fun w' => w' = w_60) ⟨b_r4, 0, none⟩ [.pointer t31]) ∧
  Calls Tryz.prog 78 #[.agg #[.pointer t31], .int .i64 600] w_60 fun e_38 w_61 =>
  ∃ t32 : Int, (e_38 = .returned (.int .i64 t32)) ∧
  Calls Tryz.prog 81 #[.int .i64 t32, .func (.func 82) #[] #[.pointer ((some ⟨b_r4, 0, none⟩))]] w_61 fun e_39 w_62 =>
  ∃ t34 : Sl, (e_39 = .returned (.slice t34.a t34.len t34.cap)) ∧
  NilP x6 fun a_t35 =>
  ∃ w_63 : World, ((Instr.storeAt 29 (.pointer ((some ⟨a_t35.block, a_t35.off + 8, none⟩))) (.slice t34.a t34.len t34.cap)).run Tryz.prog w_62 = .ok () w_63) ∧
  ∃ t37 : Option Addr, (At (fun w' => w' = w_63) ⟨b_r4, 0, none⟩ [.pointer t37]) ∧
  Calls Tryz.prog 83 #[.pointer t37] w_63 fun e_40 w_64 =>
  ∃ t38 : Bool, (e_40 = .returned (.bool t38)) ∧
  Br (!t38)
   (∃ w_65 : World, ((Instr.storeAt 31 (.pointer ((some ⟨b_t2, 0, none⟩))) (.agg #[.int .i64 0, .string (ByteArray.mk #[]), .int .i64 0, .int .i64 0, .int .i64 0, .int .i64 0, .int .i64 0, .slice none 0 0, .slice none 0 0])).run Tryz.prog w_64 = .ok () w_65) ∧
    ∃ t3 : Int, ∃ t3_1 : ByteArray, ∃ t3_2 : Int, ∃ t3_3 : Int, ∃ t3_4 : Int, ∃ t3_5 : Int, ∃ t3_6 : Int, ∃ t3_7 : Sl, ∃ t3_8 : Sl, (At (fun w' => w' = w_65) ⟨b_t2, 0, none⟩ [.int .i64 t3, .string t3_1, .int .i64 t3_2, .int .i64 t3_3, .int .i64 t3_4, .int .i64 t3_5, .int .i64 t3_6, .slice t3_7.a t3_7.len t3_7.cap, .slice t3_8.a t3_8.len t3_8.cap]) ∧
    K (.tuple #[.agg #[.int .i64 t3, .string t3_1, .int .i64 t3_2, .int .i64 t3_3, .int .i64 t3_4, .int .i64 t3_5, .int .i64 t3_6, .slice t3_7.a t3_7.len t3_7.cap, .slice t3_8.a t3_8.len t3_8.cap], .int .i64 6]) w_65)
   (NilP x6 fun a_t41 =>
    ∃ t41 : Int, ∃ t41_1 : ByteArray, ∃ t41_2 : Int, ∃ t41_3 : Int, ∃ t41_4 : Int, ∃ t41_5 : Int, ∃ t41_6 : Int, ∃ t41_7 : Sl, ∃ t41_8 : Sl, (At (fun w' => w' = w_64) a_t41 [.int .i64 t41, .string t41_1, .int .i64 t41_2, .int .i64 t41_3, .int .i64 t41_4, .int .i64 t41_5, .int .i64 t41_6, .slice t41_7.a t41_7.len t41_7.cap, .slice t41_8.a t41_8.len t41_8.cap]) ∧
    ∃ w_66 : World, ((Instr.storeAt 31 (.pointer ((some ⟨b_t2, 0, none⟩))) (.agg #[.int .i64 t41, .string t41_1, .int .i64 t41_2, .int .i64 t41_3, .int .i64 t41_4, .int .i64 t41_5, .int .i64 t41_6, .slice t41_7.a t41_7.len t41_7.cap, .slice t41_8.a t41_8.len t41_8.cap])).run Tryz.prog w_64 = .ok () w_66) ∧
    ∃ t3_9 : Int, ∃ t3_10 : ByteArray, ∃ t3_11 : Int, ∃ t3_12 : Int, ∃ t3_13 : Int, ∃ t3_14 : Int, ∃ t3_15 : Int, ∃ t3_16 : Sl, ∃ t3_17 : Sl, (At (fun w' => w' = w_66) ⟨b_t2, 0, none⟩ [.int .i64 t3_9, .string t3_10, .int .i64 t3_11, .int .i64 t3_12, .int .i64 t3_13, .int .i64 t3_14, .int .i64 t3_15, .slice t3_16.a t3_16.len t3_16.cap, .slice t3_17.a t3_17.len t3_17.cap]) ∧
    K (.tuple #[.agg #[.int .i64 t3_9, .string t3_10, .int .i64 t3_11, .int .i64 t3_12, .int .i64 t3_13, .int .i64 t3_14, .int .i64 t3_15, .slice t3_16.a t3_16.len t3_16.cap, .slice t3_17.a t3_17.len t3_17.cap], .int .i64 0]) w_66)) w_2) w
def sk26 : Sk := (.seq .leaf (.seq .leaf (.seq .leaf (.cut [6] [.ptr] [6, 11, 12, 13, 14, 15, 16, 17, 18, 19, 20, 21, 22, 23, 24, 25] .leaf .leaf))))
theorem ok26 : fnOk Tryz.prog Tryz.f26.ntmps Tryz.f26 sk26 = true := by kernel_rfl
theorem eq26 (b0 : Sl) (K : Value → World → Prop) (w : World) : fnF Tryz.prog cl Tryz.f26 sk26 [.slice b0.a b0.len b0.cap] K w = B26 b0 K w := by kernel_rfl
theorem call26 (b0 : Sl) (K : Value → World → Prop) (w : World) (h : B26 b0 K w) : Gets Tryz.prog 26 #[.slice b0.a b0.len b0.cap] w K :=
  calls_of (sk := sk26) cl_ok mixed Tryz.func26 ok26 (args := [.slice b0.a b0.len b0.cap]) (Nat.le_of_ble_eq_true (by kernel_rfl)) (by rw [eq26]; exact h)
def B77 (c0 : Option Addr) (K : Value → World → Prop) (w : World) : Prop :=
  NilP c0 fun a_t2 =>
  ∃ t2 : Option Addr, (At (fun w' => w' = w) a_t2 [.pointer t2]) ∧
  Calls Tryz.prog 78 #[.agg #[.pointer t2], .int .i64 1099511627776] w fun e w_1 =>
  ∃ t3 : Int, (e = .returned (.int .i64 t3)) ∧
  K (.int .i64 t3) w_1
def sk77 : Sk := .leaf
theorem ok77 : fnOk Tryz.prog Tryz.f77.ntmps Tryz.f77 sk77 = true := by kernel_rfl
theorem eq77 (c0 : Option Addr) (K : Value → World → Prop) (w : World) : fnF Tryz.prog cl Tryz.f77 sk77 [.pointer c0] K w = B77 c0 K w := by kernel_rfl
theorem call77 (c0 : Option Addr) (K : Value → World → Prop) (w : World) (h : B77 c0 K w) : Gets Tryz.prog 77 #[.pointer c0] w K :=
  calls_of (sk := sk77) cl_ok mixed Tryz.func77 ok77 (args := [.pointer c0]) (Nat.le_of_ble_eq_true (by kernel_rfl)) (by rw [eq77]; exact h)
def B82 (c0 : Option Addr) (K : Value → World → Prop) (w : World) : Prop :=
  NilP c0 fun a_t2 =>
  ∃ t2 : Option Addr, (At (fun w' => w' = w) a_t2 [.pointer t2]) ∧
  Calls Tryz.prog 79 #[.agg #[.pointer t2], .int .i64 16] w fun e w_1 =>
  ∃ t3 : ByteArray, (e = .returned (.string t3)) ∧
  K (.string t3) w_1
def sk82 : Sk := .leaf
theorem ok82 : fnOk Tryz.prog Tryz.f82.ntmps Tryz.f82 sk82 = true := by kernel_rfl
theorem eq82 (c0 : Option Addr) (K : Value → World → Prop) (w : World) : fnF Tryz.prog cl Tryz.f82 sk82 [.pointer c0] K w = B82 c0 K w := by kernel_rfl
theorem call82 (c0 : Option Addr) (K : Value → World → Prop) (w : World) (h : B82 c0 K w) : Gets Tryz.prog 82 #[.pointer c0] w K :=
  calls_of (sk := sk82) cl_ok mixed Tryz.func82 ok82 (args := [.pointer c0]) (Nat.le_of_ble_eq_true (by kernel_rfl)) (by rw [eq82]; exact h)
def B42 (b0 : Option Addr) (c1_0 : Int) (c1_1 : ByteArray) (c1_2 : Int) (c1_3 : Int) (c1_4 : Int) (c1_5 : Int) (c1_6 : Nat) (c1_7 : ByteArray) (c1_8 : Int) (c1_9 : Sl) (c1_10 : Sl) (X : List PanicEntry → World → Prop) (K : Value → World → Prop) (w : World) : Prop :=
  New (.cells #[.int .i64 c1_0, .string c1_1, .int .i64 c1_2, .int .i64 c1_3, .int .i64 c1_4, .int .i64 c1_5, .float .f64 c1_6, .string c1_7, .int .i64 c1_8, .slice c1_9.a c1_9.len c1_9.cap, .slice c1_10.a c1_10.len c1_10.cap] 38 (0, 0)) (fun b_c3 w_1 =>
  New (.cells #[.int .i64 0, .string (ByteArray.mk #[]), .int .i64 0, .int .i64 0, .int .i64 0, .int .i64 0, .int .i64 0, .slice none 0 0, .slice none 0 0] 31 (0, 0)) (fun b_t4 w_2 =>
  Drw w_2 fun S w_3 =>
  NilP b0 fun a_t11 =>
  ∃ t13 : Option Nat, (At S ⟨a_t11.block, a_t11.off + 2, none⟩ [.map t13]) ∧
  ∃ t15 : Int, (At S ⟨b_c3, 0 + 2, none⟩ [.int .i64 t15]) ∧
  ∃ t16 : Option Addr, ∃ t16_1 : Option Addr, ∃ t16_2 : Bool, (∀ w', S w' → ((Instr.lookup 77 (.map t13) (.int .i64 t15) true)).run Tryz.prog w' = .ok (.tuple #[.agg #[.pointer t16, .pointer t16_1], .bool t16_2]) w') ∧
  New (.cells #[.pointer none, .pointer none] 102 (0, 0)) (fun b_t5 w_4 =>
  (S w_4) ∧
  ∃ w_5 : World, ((Instr.storeAt 102 (.pointer ((some ⟨b_t5, 0, none⟩))) (.agg #[.pointer t16, .pointer t16_1])).run Tryz.prog w_4 = .ok () w_5) ∧
  Calls Tryz.prog 40 #[.bool (!t16_2), .int .i64 7] w_5 fun e w_6 =>
  ((e = .returned (.tuple #[])) ∧
    NilP b0 fun a_t23 =>
    ∃ t25 : Option Nat, (At (fun w' => w' = w_6) ⟨a_t23.block, a_t23.off + 2, none⟩ [.map t25]) ∧
    ∃ t26 : Int, (∀ w', (fun w' => w' = w_6) w' → ((Builtin.len_ #[77] 3 #[.map t25])).run Tryz.prog w' = .ok (.int .i64 t26) w') ∧
    Calls Tryz.prog 40 #[.bool (decide (t26 < 8)), .int .i64 3] w_6 fun e_1 w_7 =>
    ((e_1 = .returned (.tuple #[])) ∧
      ∃ t31 : Int, (At (fun w' => w' = w_7) ⟨b_c3, 0 + 2, none⟩ [.int .i64 t31]) ∧
      ∃ t33 : Int, ∃ t33_1 : Sl, (At (fun w' => w' = w_7) ⟨b_c3, 0 + 8, none⟩ [.int .i64 t33, .slice t33_1.a t33_1.len t33_1.cap]) ∧
      ∃ t35 : Sl, (At (fun w' => w' = w_7) ⟨b_c3, 0 + 10, none⟩ [.slice t35.a t35.len t35.cap]) ∧
      Calls Tryz.prog 109 #[.int .i64 t31, .agg #[.int .i64 t33, .slice t33_1.a t33_1.len t33_1.cap], .slice t35.a t35.len t35.cap] w_7 fun e_2 w_8 =>
      (∃ t36 : Option Addr, ∃ t36_1 : Int, (e_2 = .returned (.tuple #[.pointer t36, .int .i64 t36_1])) ∧
        Calls Tryz.prog 110 #[.int .i64 t36_1] w_8 fun e_3 w_9 =>
        ((e_3 = .returned (.tuple #[])) ∧
          Drw w_9 fun S_1 w_10 =>
          NilP b0 fun a_t42 =>
          ∃ t44 : Option Nat, (At S_1 ⟨a_t42.block, a_t42.off + 2, none⟩ [.map t44]) ∧
          ∃ t46 : Int, (At S_1 ⟨b_c3, 0 + 2, none⟩ [.int .i64 t46]) ∧
          Calls Tryz.prog 111 #[] w_10 fun e_4 w_11 =>
          (∃ t48 : Option Addr, (e_4 = .returned (.pointer t48)) ∧
            (S_1 w_11) ∧
            ∃ w_12 : World, ((Instr.mapUpdate 77 (.map t44) (.int .i64 t46) (.agg #[.pointer t36, .pointer t48])).run Tryz.prog w_11 = .ok () w_12) ∧
            Drw w_12 fun S_2 w_13 =>
            ∃ t51 : Int, (At S_2 ⟨b_c3, 0 + 2, none⟩ [.int .i64 t51]) ∧
            Calls Tryz.prog 58 #[.pointer t36] w_13 fun e_5 w_14 =>
            (∃ t53 : Sl, (e_5 = .returned (.slice t53.a t53.len t53.cap)) ∧
              (S_2 w_14) ∧
              ∃ w_15 : World, ((Instr.storeAt 31 (.pointer ((some ⟨b_t4, 0, none⟩))) (.agg #[.int .i64 0, .string (ByteArray.mk #[]), .int .i64 0, .int .i64 t51, .int .i64 0, .int .i64 0, .int .i64 0, .slice t53.a t53.len t53.cap, .slice none 0 0])).run Tryz.prog w_14 = .ok () w_15) ∧
              ∃ u : Int, ∃ u_1 : ByteArray, ∃ u_2 : Int, ∃ u_3 : Int, ∃ u_4 : Int, ∃ u_5 : Int, ∃ u_6 : Int, ∃ u_7 : Sl, ∃ u_8 : Sl, (At (fun w' => w' = w_15) ⟨b_t4, 0, none⟩ [.int .i64 u, .string u_1, .int .i64 u_2, .int .i64 u_3, .int .i64 u_4, .int .i64 u_5, .int .i64 u_6, .slice u_7.a u_7.len u_7.cap, .slice u_8.a u_8.len u_8.cap]) ∧
              K (.agg #[.int .i64 u, .string u_1, .int .i64 u_2, .int .i64 u_3, .int .i64 u_4, .int .i64 u_5, .int .i64 u_6, .slice u_7.a u_7.len u_7.cap, .slice u_8.a u_8.len u_8.cap]) w_15) ∨
            (∃ ch_5 : List PanicEntry, (e_5 = .panicked ch_5) ∧ X ch_5 w_14)) ∨
          (∃ ch_4 : List PanicEntry, (e_4 = .panicked ch_4) ∧ X ch_4 w_11)) ∨
        (∃ ch_3 : List PanicEntry, (e_3 = .panicked ch_3) ∧ X ch_3 w_9)) ∨
      (∃ ch_2 : List PanicEntry, (e_2 = .panicked ch_2) ∧ X ch_2 w_8)) ∨
    (∃ ch_1 : List PanicEntry, (e_1 = .panicked ch_1) ∧ X ch_1 w_7)) ∨
  (∃ ch : List PanicEntry, (e = .panicked ch) ∧ X ch w_6)) w_3) w_1) w
def sk42 : Sk := .leaf
theorem ok42 : fnOkx Tryz.prog Tryz.f42.ntmps Tryz.f42 sk42 [] = true := by kernel_rfl
theorem eq42 (b0 : Option Addr) (c1_0 : Int) (c1_1 : ByteArray) (c1_2 : Int) (c1_3 : Int) (c1_4 : Int) (c1_5 : Int) (c1_6 : Nat) (c1_7 : ByteArray) (c1_8 : Int) (c1_9 : Sl) (c1_10 : Sl) (X : List PanicEntry → World → Prop) (K : Value → World → Prop) (w : World) : fnFx Tryz.prog cl X Tryz.f42 sk42 [.pointer b0, .agg #[.int .i64 c1_0, .string c1_1, .int .i64 c1_2, .int .i64 c1_3, .int .i64 c1_4, .int .i64 c1_5, .float .f64 c1_6, .string c1_7, .int .i64 c1_8, .slice c1_9.a c1_9.len c1_9.cap, .slice c1_10.a c1_10.len c1_10.cap]] K w = B42 b0 c1_0 c1_1 c1_2 c1_3 c1_4 c1_5 c1_6 c1_7 c1_8 c1_9 c1_10 X K w := by kernel_rfl
theorem call42 (b0 : Option Addr) (c1_0 : Int) (c1_1 : ByteArray) (c1_2 : Int) (c1_3 : Int) (c1_4 : Int) (c1_5 : Int) (c1_6 : Nat) (c1_7 : ByteArray) (c1_8 : Int) (c1_9 : Sl) (c1_10 : Sl) (X : List PanicEntry → World → Prop) (K : Value → World → Prop) (w : World) (h : B42 b0 c1_0 c1_1 c1_2 c1_3 c1_4 c1_5 c1_6 c1_7 c1_8 c1_9 c1_10 X K w) : GetsX Tryz.prog 42 #[.pointer b0, .agg #[.int .i64 c1_0, .string c1_1, .int .i64 c1_2, .int .i64 c1_3, .int .i64 c1_4, .int .i64 c1_5, .float .f64 c1_6, .string c1_7, .int .i64 c1_8, .slice c1_9.a c1_9.len c1_9.cap, .slice c1_10.a c1_10.len c1_10.cap]] w X K :=
  callsx_of (sk := sk42) cl_ok mixed Tryz.func42 ok42 (args := [.pointer b0, .agg #[.int .i64 c1_0, .string c1_1, .int .i64 c1_2, .int .i64 c1_3, .int .i64 c1_4, .int .i64 c1_5, .float .f64 c1_6, .string c1_7, .int .i64 c1_8, .slice c1_9.a c1_9.len c1_9.cap, .slice c1_10.a c1_10.len c1_10.cap]]) (Nat.le_of_ble_eq_true (by kernel_rfl)) (by rw [eq42]; exact h)
def B15 (b0 : Option Addr) (c1_0 : Int) (c1_1 : ByteArray) (c1_2 : Int) (c1_3 : Int) (c1_4 : Int) (c1_5 : Int) (c1_6 : Nat) (c1_7 : ByteArray) (c1_8 : Int) (c1_9 : Sl) (c1_10 : Sl) (K : Value → World → Prop) (w : World) : Prop :=
  New (.cells #[.int .i64 c1_0, .string c1_1, .int .i64 c1_2, .int .i64 c1_3, .int .i64 c1_4, .int .i64 c1_5, .float .f64 c1_6, .string c1_7, .int .i64 c1_8, .slice c1_9.a c1_9.len c1_9.cap, .slice c1_10.a c1_10.len c1_10.cap] 38 (0, 0)) (fun b_c3 w_1 =>
  New (.cells #[.int .i64 0, .string (ByteArray.mk #[]), .int .i64 0, .int .i64 0, .int .i64 0, .int .i64 0, .int .i64 0, .slice none 0 0, .slice none 0 0] 31 (0, 0)) (fun b_r4 w_2 =>
  ∃ t5 : Int, ∃ t5_1 : ByteArray, ∃ t5_2 : Int, ∃ t5_3 : Int, ∃ t5_4 : Int, ∃ t5_5 : Int, ∃ t5_6 : Nat, ∃ t5_7 : ByteArray, ∃ t5_8 : Int, ∃ t5_9 : Sl, ∃ t5_10 : Sl, (At (fun w' => w' = w_2) ⟨b_c3, 0, none⟩ [.int .i64 t5, .string t5_1, .int .i64 t5_2, .int .i64 t5_3, .int .i64 t5_4, .int .i64 t5_5, .float .f64 t5_6, .string t5_7, .int .i64 t5_8, .slice t5_9.a t5_9.len t5_9.cap, .slice t5_10.a t5_10.len t5_10.cap]) ∧
  Calls Tryz.prog 41 #[.agg #[.int .i64 t5, .string t5_1, .int .i64 t5_2, .int .i64 t5_3, .int .i64 t5_4, .int .i64 t5_5, .float .f64 t5_6, .string t5_7, .int .i64 t5_8, .slice t5_9.a t5_9.len t5_9.cap, .slice t5_10.a t5_10.len t5_10.cap]] w_2 fun e w_3 =>
  (∃ t6 : Bool, (e = .returned (.bool t6)) ∧
    Calls Tryz.prog 40 #[.bool t6, .int .i64 1] w_3 fun e_1 w_4 =>
    ((e_1 = .returned (.tuple #[])) ∧
      ∃ t9 : Int, (At (fun w' => w' = w_4) ⟨b_c3, 0, none⟩ [.int .i64 t9]) ∧
      Br (t9 == 1)
       (∃ t13 : Int, ∃ t13_1 : ByteArray, ∃ t13_2 : Int, ∃ t13_3 : Int, ∃ t13_4 : Int, ∃ t13_5 : Int, ∃ t13_6 : Nat, ∃ t13_7 : ByteArray, ∃ t13_8 : Int, ∃ t13_9 : Sl, ∃ t13_10 : Sl, (At (fun w' => w' = w_4) ⟨b_c3, 0, none⟩ [.int .i64 t13, .string t13_1, .int .i64 t13_2, .int .i64 t13_3, .int .i64 t13_4, .int .i64 t13_5, .float .f64 t13_6, .string t13_7, .int .i64 t13_8, .slice t13_9.a t13_9.len t13_9.cap, .slice t13_10.a t13_10.len t13_10.cap]) ∧
        Calls Tryz.prog 42 #[.pointer b0, .agg #[.int .i64 t13, .string t13_1, .int .i64 t13_2, .int .i64 t13_3, .int .i64 t13_4, .int .i64 t13_5, .float .f64 t13_6, .string t13_7, .int .i64 t13_8, .slice t13_9.a t13_9.len t13_9.cap, .slice t13_10.a t13_10.len t13_10.cap]] w_4 fun e_2 w_5 =>
        (∃ t14 : Int, ∃ t14_1 : ByteArray, ∃ t14_2 : Int, ∃ t14_3 : Int, ∃ t14_4 : Int, ∃ t14_5 : Int, ∃ t14_6 : Int, ∃ t14_7 : Sl, ∃ t14_8 : Sl, (e_2 = .returned (.agg #[.int .i64 t14, .string t14_1, .int .i64 t14_2, .int .i64 t14_3, .int .i64 t14_4, .int .i64 t14_5, .int .i64 t14_6, .slice t14_7.a t14_7.len t14_7.cap, .slice t14_8.a t14_8.len t14_8.cap])) ∧
          ∃ w_6 : World, ((Instr.storeAt 31 (.pointer ((some ⟨b_r4, 0, none⟩))) (.agg #[.int .i64 t14, .string t14_1, .int .i64 t14_2, .int .i64 t14_3, .int .i64 t14_4, .int .i64 t14_5, .int .i64 t14_6, .slice t14_7.a t14_7.len t14_7.cap, .slice t14_8.a t14_8.len t14_8.cap])).run Tryz.prog w_5 = .ok () w_6) ∧
          LeaveF Tryz.prog 39 [.pointer ((some ⟨b_r4, 0, none⟩))] .returning (fun w_7 => ∃ u : Int, ∃ u_1 : ByteArray, ∃ u_2 : Int, ∃ u_3 : Int, ∃ u_4 : Int, ∃ u_5 : Int, ∃ u_6 : Int, ∃ u_7 : Sl, ∃ u_8 : Sl, (At (fun w' => w' = w_7) ⟨b_r4, 0, none⟩ [.int .i64 u, .string u_1, .int .i64 u_2, .int .i64 u_3, .int .i64 u_4, .int .i64 u_5, .int .i64 u_6, .slice u_7.a u_7.len u_7.cap, .slice u_8.a u_8.len u_8.cap]) ∧
            K (.agg #[.int .i64 u, .string u_1, .int .i64 u_2, .int .i64 u_3, .int .i64 u_4, .int .i64 u_5, .int .i64 u_6, .slice u_7.a u_7.len u_7.cap, .slice u_8.a u_8.len u_8.cap]) w_7) w_6) ∨
        (∃ ch_2 : List PanicEntry, (e_2 = .panicked ch_2) ∧ LeaveF Tryz.prog 39 [.pointer ((some ⟨b_r4, 0, none⟩))] (.panicking ch_2) (fun w_8 => ∃ u_9 : Int, ∃ u_10 : ByteArray, ∃ u_11 : Int, ∃ u_12 : Int, ∃ u_13 : Int, ∃ u_14 : Int, ∃ u_15 : Int, ∃ u_16 : Sl, ∃ u_17 : Sl, (At (fun w' => w' = w_8) ⟨b_r4, 0, none⟩ [.int .i64 u_9, .string u_10, .int .i64 u_11, .int .i64 u_12, .int .i64 u_13, .int .i64 u_14, .int .i64 u_15, .slice u_16.a u_16.len u_16.cap, .slice u_17.a u_17.len u_17.cap]) ∧
            K (.agg #[.int .i64 u_9, .string u_10, .int .i64 u_11, .int .i64 u_12, .int .i64 u_13, .int .i64 u_14, .int .i64 u_15, .slice u_16.a u_16.len u_16.cap, .slice u_17.a u_17.len u_17.cap]) w_8) w_5))
       (∃ (J : Bool → World → Prop), (Br (t9 == 2)
           (J (t9 == 2) w_4)
           (J (t9 == 7) w_4)) ∧
        ∀ (z : Env) (t15 : Bool) (w_9 : World), J t15 w_9 →
        Br t15
         (∃ t19 : Int, ∃ t19_1 : ByteArray, ∃ t19_2 : Int, ∃ t19_3 : Int, ∃ t19_4 : Int, ∃ t19_5 : Int, ∃ t19_6 : Nat, ∃ t19_7 : ByteArray, ∃ t19_8 : Int, ∃ t19_9 : Sl, ∃ t19_10 : Sl, (At (fun w' => w' = w_9) ⟨b_c3, 0, none⟩ [.int .i64 t19, .string t19_1, .int .i64 t19_2, .int .i64 t19_3, .int .i64 t19_4, .int .i64 t19_5, .float .f64 t19_6, .string t19_7, .int .i64 t19_8, .slice t19_9.a t19_9.len t19_9.cap, .slice t19_10.a t19_10.len t19_10.cap]) ∧
          Calls Tryz.prog 43 #[.pointer b0, .agg #[.int .i64 t19, .string t19_1, .int .i64 t19_2, .int .i64 t19_3, .int .i64 t19_4, .int .i64 t19_5, .float .f64 t19_6, .string t19_7, .int .i64 t19_8, .slice t19_9.a t19_9.len t19_9.cap, .slice t19_10.a t19_10.len t19_10.cap]] w_9 fun e_3 w_10 =>
          (∃ t20 : Int, ∃ t20_1 : ByteArray, ∃ t20_2 : Int, ∃ t20_3 : Int, ∃ t20_4 : Int, ∃ t20_5 : Int, ∃ t20_6 : Int, ∃ t20_7 : Sl, ∃ t20_8 : Sl, (e_3 = .returned (.agg #[.int .i64 t20, .string t20_1, .int .i64 t20_2, .int .i64 t20_3, .int .i64 t20_4, .int .i64 t20_5, .int .i64 t20_6, .slice t20_7.a t20_7.len t20_7.cap, .slice t20_8.a t20_8.len t20_8.cap])) ∧
            ∃ w_11 : World, ((Instr.storeAt 31 (.pointer ((some ⟨b_r4, 0, none⟩))) (.agg #[.int .i64 t20, .string t20_1, .int .i64 t20_2, .int .i64 t20_3, .int .i64 t20_4, .int .i64 t20_5, .int .i64 t20_6, .slice t20_7.a t20_7.len t20_7.cap, .slice t20_8.a t20_8.len t20_8.cap])).run Tryz.prog w_10 = .ok () w_11) ∧
            LeaveF Tryz.prog 39 [.pointer ((some ⟨b_r4, 0, none⟩))] .returning (fun w_12 => ∃ u_18 : Int, ∃ u_19 : ByteArray, ∃ u_20 : Int, ∃ u_21 : Int, ∃ u_22 : Int, ∃ u_23 : Int, ∃ u_24 : Int, ∃ u_25 : Sl, ∃ u_26 : Sl, (At (fun w' => w' = w_12) ⟨b_r4, 0, none⟩ [.int .i64 u_18, .string u_19, .int .i64 u_20, .int .i64 u_21, .int .i64 u_22, .int .i64 u_23, .int .i64 u_24, .slice u_25.a u_25.len u_25.cap, .slice u_26.a u_26.len u_26.cap]) ∧
              K (.agg #[.int .i64 u_18, .string u_19, .int .i64 u_20, .int .i64 u_21, .int .i64 u_22, .int .i64 u_23, .int .i64 u_24, .slice u_25.a u_25.len u_25.cap, .slice u_26.a u_26.len u_26.cap]) w_12) w_11) ∨
          (∃ ch_3 : List PanicEntry, (e_3 = .panicked ch_3) ∧ LeaveF Tryz.prog 39 [.pointer ((some ⟨b_r4, 0, none⟩))] (.panicking ch_3) (fun w_13 => ∃ u_27 : Int, ∃ u_28 : ByteArray, ∃ u_29 : Int, ∃ u_30 : Int, ∃ u_31 : Int, ∃ u_32 : Int, ∃ u_33 : Int, ∃ u_34 : Sl, ∃ u_35 : Sl, (At (fun w' => w' = w_13) ⟨b_r4, 0, none⟩ [.int .i64 u_27, .string u_28, .int .i64 u_29, .int .i64 u_30, .int .i64 u_31, .int .i64 u_32, .int .i64 u_33, .slice u_34.a u_34.len u_34.cap, .slice u_35.a u_35.len u_35.cap]) ∧
              K (.agg #[.int .i64 u_27, .string u_28, .int .i64 u_29, .int .i64 u_30, .int .i64 u_31, .int .i64 u_32, .int .i64 u_33, .slice u_34.a u_34.len u_34.cap, .slice u_35.a u_35.len u_35.cap]) w_13) w_10))
         (Br (t9 == 8)
           (∃ t24 : Int, ∃ t24_1 : ByteArray, ∃ t24_2 : Int, ∃ t24_3 : Int, ∃ t24_4 : Int, ∃ t24_5 : Int, ∃ t24_6 : Nat, ∃ t24_7 : ByteArray, ∃ t24_8 : Int, ∃ t24_9 : Sl, ∃ t24_10 : Sl, (At (fun w' => w' = w_9) ⟨b_c3, 0, none⟩ [.int .i64 t24, .string t24_1, .int .i64 t24_2, .int .i64 t24_3, .int .i64 t24_4, .int .i64 t24_5, .float .f64 t24_6, .string t24_7, .int .i64 t24_8, .slice t24_9.a t24_9.len t24_9.cap, .slice t24_10.a t24_10.len t24_10.cap]) ∧
            Calls Tryz.prog 44 #[.pointer b0, .agg #[.int .i64 t24, .string t24_1, .int .i64 t24_2, .int .i64 t24_3, .int .i64 t24_4, .int .i64 t24_5, .float .f64 t24_6, .string t24_7, .int .i64 t24_8, .slice t24_9.a t24_9.len t24_9.cap, .slice t24_10.a t24_10.len t24_10.cap]] w_9 fun e_4 w_14 =>
            (∃ t25 : Int, ∃ t25_1 : ByteArray, ∃ t25_2 : Int, ∃ t25_3 : Int, ∃ t25_4 : Int, ∃ t25_5 : Int, ∃ t25_6 : Int, ∃ t25_7 : Sl, ∃ t25_8 : Sl, (e_4 = .returned (.agg #[.int .i64 t25, .string t25_1, .int .i64 t25_2, .int .i64 t25_3, .int .i64 t25_4, .int .i64 t25_5, .int .i64 t25_6, .slice t25_7.a t25_7.len t25_7.cap, .slice t25_8.a t25_8.len t25_8.cap])) ∧
              ∃ w_15 : World, ((Instr.storeAt 31 (.pointer ((some ⟨b_r4, 0, none⟩))) (.agg #[.int .i64 t25, .string t25_1, .int .i64 t25_2, .int .i64 t25_3, .int .i64 t25_4, .int .i64 t25_5, .int .i64 t25_6, .slice t25_7.a t25_7.len t25_7.cap, .slice t25_8.a t25_8.len t25_8.cap])).run Tryz.prog w_14 = .ok () w_15) ∧
              LeaveF Tryz.prog 39 [.pointer ((some ⟨b_r4, 0, none⟩))] .returning (fun w_16 => ∃ u_36 : Int, ∃ u_37 : ByteArray, ∃ u_38 : Int, ∃ u_39 : Int, ∃ u_40 : Int, ∃ u_41 : Int, ∃ u_42 : Int, ∃ u_43 : Sl, ∃ u_44 : Sl, (At (fun w' => w' = w_16) ⟨b_r4, 0, none⟩ [.int .i64 u_36, .string u_37, .int .i64 u_38, .int .i64 u_39, .int .i64 u_40, .int .i64 u_41, .int .i64 u_42, .slice u_43.a u_43.len u_43.cap, .slice u_44.a u_44.len u_44.cap]) ∧
                K (.agg #[.int .i64 u_36, .string u_37, .int .i64 u_38, .int .i64 u_39, .int .i64 u_40, .int .i64 u_41, .int .i64 u_42, .slice u_43.a u_43.len u_43.cap, .slice u_44.a u_44.len u_44.cap]) w_16) w_15) ∨
            (∃ ch_4 : List PanicEntry, (e_4 = .panicked ch_4) ∧ LeaveF Tryz.prog 39 [.pointer ((some ⟨b_r4, 0, none⟩))] (.panicking ch_4) (fun w_17 => ∃ u_45 : Int, ∃ u_46 : ByteArray, ∃ u_47 : Int, ∃ u_48 : Int, ∃ u_49 : Int, ∃ u_50 : Int, ∃ u_51 : Int, ∃ u_52 : Sl, ∃ u_53 : Sl, (At (fun w' => w' = w_17) ⟨b_r4, 0, none⟩ [.int .i64 u_45, .string u_46, .int .i64 u_47, .int .i64 u_48, .int .i64 u_49, .int .i64 u_50, .int .i64 u_51, .slice u_52.a u_52.len u_52.cap, .slice u_53.a u_53.len u_53.cap]) ∧
                K (.agg #[.int .i64 u_45, .string u_46, .int .i64 u_47, .int .i64 u_48, .int .i64 u_49, .int .i64 u_50, .int .i64 u_51, .slice u_52.a u_52.len u_52.cap, .slice u_53.a u_53.len u_53.cap]) w_17) w_14))
           (Br (t9 == 9)
             (∃ t29 : Int, ∃ t29_1 : ByteArray, ∃ t29_2 : Int, ∃ t29_3 : Int, ∃ t29_4 : Int, ∃ t29_5 : Int, ∃ t29_6 : Nat, ∃ t29_7 : ByteArray, ∃ t29_8 : Int, ∃ t29_9 : Sl, ∃ t29_10 : Sl, (At (fun w' => w' = w_9) ⟨b_c3, 0, none⟩ [.int .i64 t29, .string t29_1, .int .i64 t29_2, .int .i64 t29_3, .int .i64 t29_4, .int .i64 t29_5, .float .f64 t29_6, .string t29_7, .int .i64 t29_8, .slice t29_9.a t29_9.len t29_9.cap, .slice t29_10.a t29_10.len t29_10.cap]) ∧
              Calls Tryz.prog 19 #[.pointer b0, .agg #[.int .i64 t29, .string t29_1, .int .i64 t29_2, .int .i64 t29_3, .int .i64 t29_4, .int .i64 t29_5, .float .f64 t29_6, .string t29_7, .int .i64 t29_8, .slice t29_9.a t29_9.len t29_9.cap, .slice t29_10.a t29_10.len t29_10.cap]] w_9 fun e_5 w_18 =>
              (∃ t30 : Int, ∃ t30_1 : ByteArray, ∃ t30_2 : Int, ∃ t30_3 : Int, ∃ t30_4 : Int, ∃ t30_5 : Int, ∃ t30_6 : Int, ∃ t30_7 : Sl, ∃ t30_8 : Sl, (e_5 = .returned (.agg #[.int .i64 t30, .string t30_1, .int .i64 t30_2, .int .i64 t30_3, .int .i64 t30_4, .int .i64 t30_5, .int .i64 t30_6, .slice t30_7.a t30_7.len t30_7.cap, .slice t30_8.a t30_8.len t30_8.cap])) ∧
                ∃ w_19 : World, ((Instr.storeAt 31 (.pointer ((some ⟨b_r4, 0, none⟩))) (.agg #[.int .i64 t30, .string t30_1, .int .i64 t30_2, .int .i64 t30_3, .int .i64 t30_4, .int .i64 t30_5, .int .i64 t30_6, .slice t30_7.a t30_7.len t30_7.cap, .slice t30_8.a t30_8.len t30_8.cap])).run Tryz.prog w_18 = .ok () w_19) ∧
                LeaveF Tryz.prog 39 [.pointer ((some ⟨b_r4, 0, none⟩))] .returning (fun w_20 => ∃ u_54 : Int, ∃ u_55 : ByteArray, ∃ u_56 : Int, ∃ u_57 : Int, ∃ u_58 : Int, ∃ u_59 : Int, ∃ u_60 : Int, ∃ u_61 : Sl, ∃ u_62 : Sl, (At (fun w' => w' = w_20) ⟨b_r4, 0, none⟩ [.int .i64 u_54, .string u_55, .int .i64 u_56, .int .i64 u_57, .int .i64 u_58, .int .i64 u_59, .int .i64 u_60, .slice u_61.a u_61.len u_61.cap, .slice u_62.a u_62.len u_62.cap]) ∧
                  K (.agg #[.int .i64 u_54, .string u_55, .int .i64 u_56, .int .i64 u_57, .int .i64 u_58, .int .i64 u_59, .int .i64 u_60, .slice u_61.a u_61.len u_61.cap, .slice u_62.a u_62.len u_62.cap]) w_20) w_19) ∨
              (∃ ch_5 : List PanicEntry, (e_5 = .panicked ch_5) ∧ LeaveF Tryz.prog 39 [.pointer ((some ⟨b_r4, 0, none⟩))] (.panicking ch_5) (fun w_21 => ∃ u_63 : Int, ∃ u_64 : ByteArray, ∃ u_65 : Int, ∃ u_66 : Int, ∃ u_67 : Int, ∃ u_68 : Int, ∃ u_69 : Int, ∃ u_70 : Sl, ∃ u_71 : Sl, (At (fun w' => w' = w_21) ⟨b_r4, 0, none⟩ [.int .i64 u_63, .string u_64, .int .i64 u_65, .int .i64 u_66, .int .i64 u_67, .int .i64 u_68, .int .i64 u_69, .slice u_70.a u_70.len u_70.cap, .slice u_71.a u_71.len u_71.cap]) ∧
                  K (.agg #[.int .i64 u_63, .string u_64, .int .i64 u_65, .int .i64 u_66, .int .i64 u_67, .int .i64 u_68, .int .i64 u_69, .slice u_70.a u_70.len u_70.cap, .slice u_71.a u_71.len u_71.cap]) w_21) w_18))
             (Drw w_9 fun S w_22 =>
              ∃ t34 : ByteArray, (At S ⟨b_c3, 0 + 1, none⟩ [.string t34]) ∧
              ∃ t36 : Int, ∃ t36_1 : ByteArray, ∃ t36_2 : Int, ∃ t36_3 : Int, ∃ t36_4 : Int, ∃ t36_5 : Int, ∃ t36_6 : Nat, ∃ t36_7 : ByteArray, ∃ t36_8 : Int, ∃ t36_9 : Sl, ∃ t36_10 : Sl, (At S ⟨b_c3, 0, none⟩ [.int .i64 t36, .string t36_1, .int .i64 t36_2, .int .i64 t36_3, .int .i64 t36_4, .int .i64 t36_5, .float .f64 t36_6, .string t36_7, .int .i64 t36_8, .slice t36_9.a t36_9.len t36_9.cap, .slice t36_10.a t36_10.len t36_10.cap]) ∧
              Calls Tryz.prog 46 #[.pointer b0, .string t34] w_22 fun e_6 w_23 =>
              (∃ t35 : Option Addr, (e_6 = .returned (.pointer t35)) ∧
                (S w_23) ∧
                Calls Tryz.prog 45 #[.pointer b0, .pointer t35, .agg #[.int .i64 t36, .string t36_1, .int .i64 t36_2, .int .i64 t36_3, .int .i64 t36_4, .int .i64 t36_5, .float .f64 t36_6, .string t36_7, .int .i64 t36_8, .slice t36_9.a t36_9.len t36_9.cap, .slice t36_10.a t36_10.len t36_10.cap]] w_23 fun e_7 w_24 =>
                (∃ t37 : Int, ∃ t37_1 : ByteArray, ∃ t37_2 : Int, ∃ t37_3 : Int, ∃ t37_4 : Int, ∃ t37_5 : Int, ∃ t37_6 : Int, ∃ t37_7 : Sl, ∃ t37_8 : Sl, (e_7 = .returned (.agg #[.int .i64 t37, .string t37_1, .int .i64 t37_2, .int .i64 t37_3, .int .i64 t37_4, .int .i64 t37_5, .int .i64 t37_6, .slice t37_7.a t37_7.len t37_7.cap, .slice t37_8.a t37_8.len t37_8.cap])) ∧
                  (S w_24) ∧
                  ∃ w_25 : World, ((Instr.storeAt 31 (.pointer ((some ⟨b_r4, 0, none⟩))) (.agg #[.int .i64 t37, .string t37_1, .int .i64 t37_2, .int .i64 t37_3, .int .i64 t37_4, .int .i64 t37_5, .int .i64 t37_6, .slice t37_7.a t37_7.len t37_7.cap, .slice t37_8.a t37_8.len t37_8.cap])).run Tryz.prog w_24 = .ok () w_25) ∧
                  LeaveF Tryz.prog 39 [.pointer ((some ⟨b_r4, 0, none⟩))] .returning (fun w_26 => ∃ u_72 : Int, ∃ u_73 : ByteArray, ∃ u_74 : Int, ∃ u_75 : Int, ∃ u_76 : Int, ∃ u_77 : Int, ∃ u_78 : Int, ∃ u_79 : Sl, ∃ u_80 : Sl, (At (fun w' => w' = w_26) ⟨b_r4, 0, none⟩ [.int .i64 u_72, .string u_73, .int .i64 u_74, .int .i64 u_75, .int .i64 u_76, .int .i64 u_77, .int .i64 u_78, .slice u_79.a u_79.len u_79.cap, .slice u_80.a u_80.len u_80.cap]) ∧
                    K (.agg #[.int .i64 u_72, .string u_73, .int .i64 u_74, .int .i64 u_75, .int .i64 u_76, .int .i64 u_77, .int .i64 u_78, .slice u_79.a u_79.len u_79.cap, .slice u_80.a u_80.len u_80.cap]) w_26) w_25) ∨
                (∃ ch_7 : List PanicEntry, (e_7 = .panicked ch_7) ∧ LeaveF Tryz.prog 39 [.pointer ((some ⟨b_r4, 0, none⟩))] (.panicking ch_7) (fun w_27 => ∃ u_81 : Int, ∃ u_82 : ByteArray, ∃ u_83 : Int, ∃ u_84 : Int, ∃ u_85 : Int, ∃ u_86 : Int, ∃ u_87 : Int, ∃ u_88 : Sl, ∃ u_89 : Sl, (At (fun w' => w' = w_27) ⟨b_r4, 0, none⟩ [.int .i64 u_81, .string u_82, .int .i64 u_83, .int .i64 u_84, .int .i64 u_85, .int .i64 u_86, .int .i64 u_87, .slice u_88.a u_88.len u_88.cap, .slice u_89.a u_89.len u_89.cap]) ∧
                    K (.agg #[.int .i64 u_81, .string u_82, .int .i64 u_83, .int .i64 u_84, .int .i64 u_85, .int .i64 u_86, .int .i64 u_87, .slice u_88.a u_88.len u_88.cap, .slice u_89.a u_89.len u_89.cap]) w_27) w_24)) ∨
              (∃ ch_6 : List PanicEntry, (e_6 = .panicked ch_6) ∧ LeaveF Tryz.prog 39 [.pointer ((some ⟨b_r4, 0, none⟩))] (.panicking ch_6) (fun w_28 => ∃ u_90 : Int, ∃ u_91 : ByteArray, ∃ u_92 : Int, ∃ u_93 : Int, ∃ u_94 : Int, ∃ u_95 : Int, ∃ u_96 : Int, ∃ u_97 : Sl, ∃ u_98 : Sl, (At (fun w' => w' = w_28) ⟨b_r4, 0, none⟩ [.int .i64 u_90, .string u_91, .int .i64 u_92, .int .i64 u_93, .int .i64 u_94, .int .i64 u_95, .int .i64 u_96, .slice u_97.a u_97.len u_97.cap, .slice u_98.a u_98.len u_98.cap]) ∧
                  K (.agg #[.int .i64 u_90, .string u_91, .int .i64 u_92, .int .i64 u_93, .int .i64 u_94, .int .i64 u_95, .int .i64 u_96, .slice u_97.a u_97.len u_97.cap, .slice u_98.a u_98.len u_98.cap]) w_28) w_23)))))) ∨
    (∃ ch_1 : List PanicEntry, (e_1 = .panicked ch_1) ∧ LeaveF Tryz.prog 39 [.pointer ((some ⟨b_r4, 0, none⟩))] (.panicking ch_1) (fun w_29 => ∃ u_99 : Int, ∃ u_100 : ByteArray, ∃ u_101 : Int, ∃ u_102 : Int, ∃ u_103 : Int, ∃ u_104 : Int, ∃ u_105 : Int, ∃ u_106 : Sl, ∃ u_107 : Sl, (At (fun w' => w' = w_29) ⟨b_r4, 0, none⟩ [.int .i64 u_99, .string u_100, .int .i64 u_101, .int .i64 u_102, .int .i64 u_103, .int .i64 u_104, .int .i64 u_105, .slice u_106.a u_106.len u_106.cap, .slice u_107.a u_107.len u_107.cap]) ∧
        K (.agg #[.int .i64 u_99, .string u_100, .int .i64 u_101, .int .i64 u_102, .int .i64 u_103, .int .i64 u_104, .int .i64 u_105, .slice u_106.a u_106.len u_106.cap, .slice u_107.a u_107.len u_107.cap]) w_29) w_4)) ∨
  (∃ ch : List PanicEntry, (e = .panicked ch) ∧ LeaveF Tryz.prog 39 [.pointer ((some ⟨b_r4, 0, none⟩))] (.panicking ch) (fun w_30 => ∃ u_108 : Int, ∃ u_109 : ByteArray, ∃ u_110 : Int, ∃ u_111 : Int, ∃ u_112 : Int, ∃ u_113 : Int, ∃ u_114 : Int, ∃ u_115 : Sl, ∃ u_116 : Sl, (At (fun w' => w' = w_30) ⟨b_r4, 0, none⟩ [.int .i64 u_108, .string u_109, .int .i64 u_110, .int .i64 u_111, .int .i64 u_112, .int .i64 u_113, .int .i64 u_114, .slice u_115.a u_115.len u_115.cap, .slice u_116.a u_116.len u_116.cap]) ∧
      K (.agg #[.int .i64 u_108, .string u_109, .int .i64 u_110, .int .i64 u_111, .int .i64 u_112, .int .i64 u_113, .int .i64 u_114, .slice u_115.a u_115.len u_115.cap, .slice u_116.a u_116.len u_116.cap]) w_30) w_3)) w_1) w
def sk15 : Sk := (.seq .leaf (.seq (.seq .leaf (.block (.seq .leaf (.cond .leaf (.cut [15] [.bool] [15, 16, 17] .leaf .leaf))))) .leaf))
theorem ok15 : defOk Tryz.prog cl Tryz.f15 sk15 = true := by kernel_rfl
theorem eq15 (b0 : Option Addr) (c1_0 : Int) (c1_1 : ByteArray) (c1_2 : Int) (c1_3 : Int) (c1_4 : Int) (c1_5 : Int) (c1_6 : Nat) (c1_7 : ByteArray) (c1_8 : Int) (c1_9 : Sl) (c1_10 : Sl) (K : Value → World → Prop) (w : World) : defF Tryz.prog cl Tryz.f15 sk15 [.pointer b0, .agg #[.int .i64 c1_0, .string c1_1, .int .i64 c1_2, .int .i64 c1_3, .int .i64 c1_4, .int .i64 c1_5, .float .f64 c1_6, .string c1_7, .int .i64 c1_8, .slice c1_9.a c1_9.len c1_9.cap, .slice c1_10.a c1_10.len c1_10.cap]] K w = B15 b0 c1_0 c1_1 c1_2 c1_3 c1_4 c1_5 c1_6 c1_7 c1_8 c1_9 c1_10 K w := by kernel_rfl
theorem call15 (b0 : Option Addr) (c1_0 : Int) (c1_1 : ByteArray) (c1_2 : Int) (c1_3 : Int) (c1_4 : Int) (c1_5 : Int) (c1_6 : Nat) (c1_7 : ByteArray) (c1_8 : Int) (c1_9 : Sl) (c1_10 : Sl) (K : Value → World → Prop) (w : World) (h : B15 b0 c1_0 c1_1 c1_2 c1_3 c1_4 c1_5 c1_6 c1_7 c1_8 c1_9 c1_10 K w) : Gets Tryz.prog 15 #[.pointer b0, .agg #[.int .i64 c1_0, .string c1_1, .int .i64 c1_2, .int .i64 c1_3, .int .i64 c1_4, .int .i64 c1_5, .float .f64 c1_6, .string c1_7, .int .i64 c1_8, .slice c1_9.a c1_9.len c1_9.cap, .slice c1_10.a c1_10.len c1_10.cap]] w K :=
  callsd_of (sk := sk15) cl_ok mixed Tryz.func15 ok15 (args := [.pointer b0, .agg #[.int .i64 c1_0, .string c1_1, .int .i64 c1_2, .int .i64 c1_3, .int .i64 c1_4, .int .i64 c1_5, .float .f64 c1_6, .string c1_7, .int .i64 c1_8, .slice c1_9.a c1_9.len c1_9.cap, .slice c1_10.a c1_10.len c1_10.cap]]) (Nat.le_of_ble_eq_true (by kernel_rfl)) (by rw [eq15]; exact h)
end Go.Proofs.YtfgbbckfikiomaaGreatDoor
/- The formulas of functions of this seat's translation, printed by a program of mine off the translation; each is proved equal to 'fnF' of the function's body, so it is enough for the call. No condition. -/
namespace Go.Proofs.YtfgbbckfikiomaaGreatDoor
open Go Go.VC
set_option linter.unusedVariables false
def B71 (l0 : Sl) (K : Value → World → Prop) (w : World) : Prop :=
  ∃ (I : Sl → Int → World → Prop) (μ : Sl → Int → World → Nat), (I ⟨none, 0, 0⟩ 0 w) ∧ ∀ (z : Env) (out3 : Sl) (i4 : Int) (w_1 : World), I out3 i4 w_1 →
  Br (decide (i4 < (↑l0.len : Int)))
   (Rng i4 l0.len (NilP l0.a fun a_t14 =>
    ∃ t15 : Int, (At (fun w' => w' = w_1) (Addr.add a_t14 i4.toNat) [.int .i64 t15]) ∧
    Calls Tryz.prog 88 #[.int .u64 (IntKind.u64.wrap (if 0 > t15 then 0 else t15))] w_1 fun e w_2 =>
    ∃ t18 : Sl, (e = .returned (.slice t18.a t18.len t18.cap)) ∧
    ∃ w_3 : World, ∃ t19 : Sl, ((Builtin.append_ #[42, 42] 42 #[.slice out3.a out3.len out3.cap, .slice t18.a t18.len t18.cap]).run Tryz.prog w_2 = .ok (.slice t19.a t19.len t19.cap) w_3) ∧
    (I t19 (IntKind.i64.wrap (i4 + 1)) w_3) ∧ μ t19 (IntKind.i64.wrap (i4 + 1)) w_3 < μ out3 i4 w_1))
   (K (.slice out3.a out3.len out3.cap) w_1)
def sk71 : Sk := (.seq .leaf (.seq .leaf (.seq (.seq .leaf (.block (.loop [3, 4] [.sl, (.int .i64)] [3, 4, 5, 6, 7, 8, 9, 10, 11, 12, 13, 14, 15, 16, 17, 18, 19] .leaf))) .leaf)))
theorem ok71 : fnOk Tryz.prog Tryz.f71.ntmps Tryz.f71 sk71 = true := by kernel_rfl
theorem eq71 (l0 : Sl) (K : Value → World → Prop) (w : World) : fnF Tryz.prog cl Tryz.f71 sk71 [.slice l0.a l0.len l0.cap] K w = B71 l0 K w := by kernel_rfl
theorem call71 (l0 : Sl) (K : Value → World → Prop) (w : World) (h : B71 l0 K w) : Gets Tryz.prog 71 #[.slice l0.a l0.len l0.cap] w K :=
  calls_of (sk := sk71) cl_ok mixed Tryz.func71 ok71 (args := [.slice l0.a l0.len l0.cap]) (Nat.le_of_ble_eq_true (by kernel_rfl)) (by rw [eq71]; exact h)
def B28 (r0_0 : Int) (r0_1 : ByteArray) (r0_2 : Int) (r0_3 : Int) (r0_4 : Int) (r0_5 : Int) (r0_6 : Int) (r0_7 : Sl) (r0_8 : Sl) (K : Value → World → Prop) (w : World) : Prop :=
  New (.cells #[.int .i64 r0_0, .string r0_1, .int .i64 r0_2, .int .i64 r0_3, .int .i64 r0_4, .int .i64 r0_5, .int .i64 r0_6, .slice r0_7.a r0_7.len r0_7.cap, .slice r0_8.a r0_8.len r0_8.cap] 31 (0, 0)) (fun b_r1 w_1 =>
  ∃ t6 : Int, (At (fun w' => w' = w_1) ⟨b_r1, 0, none⟩ [.int .i64 t6]) ∧
  New (.cells #[.int .i64 t6] 3 (0, 0)) (fun b_t7 w_2 =>
  Calls Tryz.prog 71 #[.slice ((some ⟨b_t7, 0, none⟩)) 1 1] w_2 fun e w_3 =>
  ∃ t8 : Sl, (e = .returned (.slice t8.a t8.len t8.cap)) ∧
  ∃ t11 : ByteArray, (At (fun w' => w' = w_3) ⟨b_r1, 0 + 1, none⟩ [.string t11]) ∧
  ∃ w_4 : World, ∃ t12 : Sl, ((convert 9 42 (.string t11)).run Tryz.prog w_3 = .ok (.slice t12.a t12.len t12.cap) w_4) ∧
  Calls Tryz.prog 72 #[.slice t12.a t12.len t12.cap] w_4 fun e_1 w_5 =>
  ∃ t13 : Sl, (e_1 = .returned (.slice t13.a t13.len t13.cap)) ∧
  ∃ w_6 : World, ∃ t14 : Sl, ((Builtin.append_ #[42, 42] 42 #[.slice t8.a t8.len t8.cap, .slice t13.a t13.len t13.cap]).run Tryz.prog w_5 = .ok (.slice t14.a t14.len t14.cap) w_6) ∧
  ∃ t17 : Int, (At (fun w' => w' = w_6) ⟨b_r1, 0 + 2, none⟩ [.int .i64 t17]) ∧
  ∃ t19 : Int, (At (fun w' => w' = w_6) ⟨b_r1, 0 + 3, none⟩ [.int .i64 t19]) ∧
  ∃ t21 : Int, (At (fun w' => w' = w_6) ⟨b_r1, 0 + 4, none⟩ [.int .i64 t21]) ∧
  ∃ t23 : Int, (At (fun w' => w' = w_6) ⟨b_r1, 0 + 5, none⟩ [.int .i64 t23]) ∧
  ∃ t25 : Int, (At (fun w' => w' = w_6) ⟨b_r1, 0 + 6, none⟩ [.int .i64 t25]) ∧
  ∃ t27 : Sl, (At (fun w' => w' = w_6) ⟨b_r1, 0 + 7, none⟩ [.slice t27.a t27.len t27.cap]) ∧
  New (.cells #[.int .i64 t17, .int .i64 t19, .int .i64 t21, .int .i64 t23, .int .i64 t25, .int .i64 ((↑t27.len : Int))] 3 (0, 0)) (fun b_t29 w_7 =>
  Calls Tryz.prog 71 #[.slice ((some ⟨b_t29, 0, none⟩)) 6 6] w_7 fun e_2 w_8 =>
  ∃ t30 : Sl, (e_2 = .returned (.slice t30.a t30.len t30.cap)) ∧
  ∃ w_9 : World, ∃ t31 : Sl, ((Builtin.append_ #[42, 42] 42 #[.slice t14.a t14.len t14.cap, .slice t30.a t30.len t30.cap]).run Tryz.prog w_8 = .ok (.slice t31.a t31.len t31.cap) w_9) ∧
  ∃ t34 : Sl, (At (fun w' => w' = w_9) ⟨b_r1, 0 + 7, none⟩ [.slice t34.a t34.len t34.cap]) ∧
  Calls Tryz.prog 71 #[.slice t34.a t34.len t34.cap] w_9 fun e_3 w_10 =>
  ∃ t35 : Sl, (e_3 = .returned (.slice t35.a t35.len t35.cap)) ∧
  ∃ w_11 : World, ∃ t36 : Sl, ((Builtin.append_ #[42, 42] 42 #[.slice t31.a t31.len t31.cap, .slice t35.a t35.len t35.cap]).run Tryz.prog w_10 = .ok (.slice t36.a t36.len t36.cap) w_11) ∧
  ∃ t39 : Sl, (At (fun w' => w' = w_11) ⟨b_r1, 0 + 8, none⟩ [.slice t39.a t39.len t39.cap]) ∧
  New (.cells #[.int .i64 ((↑t39.len : Int))] 3 (0, 0)) (fun b_t41 w_12 =>
  Calls Tryz.prog 71 #[.slice ((some ⟨b_t41, 0, none⟩)) 1 1] w_12 fun e_4 w_13 =>
  ∃ t42 : Sl, (e_4 = .returned (.slice t42.a t42.len t42.cap)) ∧
  ∃ w_14 : World, ∃ t43 : Sl, ((Builtin.append_ #[42, 42] 42 #[.slice t36.a t36.len t36.cap, .slice t42.a t42.len t42.cap]).run Tryz.prog w_13 = .ok (.slice t43.a t43.len t43.cap) w_14) ∧
  ∃ (I : Sl → Int → World → Prop) (μ : Sl → Int → World → Nat), (I t43 0 w_14) ∧ ∀ (z : Env) (b3 : Sl) (i4 : Int) (w_15 : World), I b3 i4 w_15 →
  ∃ t46 : Sl, (At (fun w' => w' = w_15) ⟨b_r1, 0 + 8, none⟩ [.slice t46.a t46.len t46.cap]) ∧
  Br (decide (i4 < (↑t46.len : Int)))
   (∃ t53 : Sl, (At (fun w' => w' = w_15) ⟨b_r1, 0 + 8, none⟩ [.slice t53.a t53.len t53.cap]) ∧
    Rng i4 t53.len (NilP t53.a fun a_t55 =>
    ∃ t56 : ByteArray, (At (fun w' => w' = w_15) (Addr.add a_t55 i4.toNat) [.string t56]) ∧
    ∃ w_16 : World, ∃ t57 : Sl, ((convert 9 42 (.string t56)).run Tryz.prog w_15 = .ok (.slice t57.a t57.len t57.cap) w_16) ∧
    Calls Tryz.prog 72 #[.slice t57.a t57.len t57.cap] w_16 fun e_5 w_17 =>
    ∃ t58 : Sl, (e_5 = .returned (.slice t58.a t58.len t58.cap)) ∧
    ∃ w_18 : World, ∃ t59 : Sl, ((Builtin.append_ #[42, 42] 42 #[.slice b3.a b3.len b3.cap, .slice t58.a t58.len t58.cap]).run Tryz.prog w_17 = .ok (.slice t59.a t59.len t59.cap) w_18) ∧
    (I t59 (IntKind.i64.wrap (i4 + 1)) w_18) ∧ μ t59 (IntKind.i64.wrap (i4 + 1)) w_18 < μ b3 i4 w_15))
   (K (.slice b3.a b3.len b3.cap) w_15)) w_11) w_6) w_1) w
def sk28 : Sk := (.seq .leaf (.seq .leaf (.seq .leaf (.seq .leaf (.seq .leaf (.seq .leaf (.seq (.seq .leaf (.block (.loop [3, 4] [.sl, (.int .i64)] [3, 4, 44, 45, 46, 47, 48, 49, 50, 51, 52, 53, 54, 55, 56, 57, 58, 59] .leaf))) .leaf)))))))
theorem ok28 : fnOk Tryz.prog Tryz.f28.ntmps Tryz.f28 sk28 = true := by kernel_rfl
theorem eq28 (r0_0 : Int) (r0_1 : ByteArray) (r0_2 : Int) (r0_3 : Int) (r0_4 : Int) (r0_5 : Int) (r0_6 : Int) (r0_7 : Sl) (r0_8 : Sl) (K : Value → World → Prop) (w : World) : fnF Tryz.prog cl Tryz.f28 sk28 [.agg #[.int .i64 r0_0, .string r0_1, .int .i64 r0_2, .int .i64 r0_3, .int .i64 r0_4, .int .i64 r0_5, .int .i64 r0_6, .slice r0_7.a r0_7.len r0_7.cap, .slice r0_8.a r0_8.len r0_8.cap]] K w = B28 r0_0 r0_1 r0_2 r0_3 r0_4 r0_5 r0_6 r0_7 r0_8 K w := by kernel_rfl
theorem call28 (r0_0 : Int) (r0_1 : ByteArray) (r0_2 : Int) (r0_3 : Int) (r0_4 : Int) (r0_5 : Int) (r0_6 : Int) (r0_7 : Sl) (r0_8 : Sl) (K : Value → World → Prop) (w : World) (h : B28 r0_0 r0_1 r0_2 r0_3 r0_4 r0_5 r0_6 r0_7 r0_8 K w) : Gets Tryz.prog 28 #[.agg #[.int .i64 r0_0, .string r0_1, .int .i64 r0_2, .int .i64 r0_3, .int .i64 r0_4, .int .i64 r0_5, .int .i64 r0_6, .slice r0_7.a r0_7.len r0_7.cap, .slice r0_8.a r0_8.len r0_8.cap]] w K :=
  calls_of (sk := sk28) cl_ok mixed Tryz.func28 ok28 (args := [.agg #[.int .i64 r0_0, .string r0_1, .int .i64 r0_2, .int .i64 r0_3, .int .i64 r0_4, .int .i64 r0_5, .int .i64 r0_6, .slice r0_7.a r0_7.len r0_7.cap, .slice r0_8.a r0_8.len r0_8.cap]]) (Nat.le_of_ble_eq_true (by kernel_rfl)) (by rw [eq28]; exact h)
def B27 (b0 : Sl) (K : Value → World → Prop) (w : World) : Prop :=
  New (.cells #[.int .i64 0, .string (ByteArray.mk #[]), .int .i64 0, .int .i64 0, .int .i64 0, .int .i64 0, .int .i64 0, .slice none 0 0, .slice none 0 0] 31 (0, 0)) (fun b_t2 w_1 =>
  New (.cells #[.slice b0.a b0.len b0.cap, .int .i64 0, .bool false] 133 (0, 0)) (fun b_t12 w_2 =>
  Calls Tryz.prog 84 #[.pointer ((some ⟨b_t12, 0, none⟩)), .int .u64 1099511627776] w_2 fun e w_3 =>
  ∃ t14 : Int, (e = .returned (.int .u64 t14)) ∧
  Calls Tryz.prog 85 #[.pointer ((some ⟨b_t12, 0, none⟩)), .int .i64 16] w_3 fun e_1 w_4 =>
  ∃ t17 : Sl, (e_1 = .returned (.slice t17.a t17.len t17.cap)) ∧
  ∃ t18 : ByteArray, (∀ w', (fun w' => w' = w_4) w' → ((convert 42 9 (.slice t17.a t17.len t17.cap))).run Tryz.prog w' = .ok (.string t18) w') ∧
  New (.cells #[.int .i64 0, .string (ByteArray.mk #[]), .int .i64 0, .int .i64 0, .int .i64 0, .int .i64 0, .int .i64 0, .slice none 0 0, .slice none 0 0] 31 (0, 0)) (fun b_x5 w_5 =>
  ∃ w_6 : World, ((Instr.storeAt 31 (.pointer ((some ⟨b_x5, 0, none⟩))) (.agg #[.int .i64 (IntKind.i64.wrap t14), .string t18, .int .i64 0, .int .i64 0, .int .i64 0, .int .i64 0, .int .i64 0, .slice none 0 0, .slice none 0 0])).run Tryz.prog w_5 = .ok () w_6) ∧
  Calls Tryz.prog 84 #[.pointer ((some ⟨b_t12, 0, none⟩)), .int .u64 1099511627776] w_6 fun e_2 w_7 =>
  ∃ t21 : Int, (e_2 = .returned (.int .u64 t21)) ∧
  ∃ w_8 : World, ((Instr.storeAt 3 (.pointer ((some ⟨b_x5, 0 + 2, none⟩))) (.int .i64 (IntKind.i64.wrap t21))).run Tryz.prog w_7 = .ok () w_8) ∧
  Calls Tryz.prog 84 #[.pointer ((some ⟨b_t12, 0, none⟩)), .int .u64 1099511627776] w_8 fun e_3 w_9 =>
  ∃ t25 : Int, (e_3 = .returned (.int .u64 t25)) ∧
  ∃ w_10 : World, ((Instr.storeAt 3 (.pointer ((some ⟨b_x5, 0 + 3, none⟩))) (.int .i64 (IntKind.i64.wrap t25))).run Tryz.prog w_9 = .ok () w_10) ∧
  Calls Tryz.prog 84 #[.pointer ((some ⟨b_t12, 0, none⟩)), .int .u64 1099511627776] w_10 fun e_4 w_11 =>
  ∃ t29 : Int, (e_4 = .returned (.int .u64 t29)) ∧
  ∃ w_12 : World, ((Instr.storeAt 3 (.pointer ((some ⟨b_x5, 0 + 4, none⟩))) (.int .i64 (IntKind.i64.wrap t29))).run Tryz.prog w_11 = .ok () w_12) ∧
  Calls Tryz.prog 84 #[.pointer ((some ⟨b_t12, 0, none⟩)), .int .u64 1099511627776] w_12 fun e_5 w_13 =>
  ∃ t33 : Int, (e_5 = .returned (.int .u64 t33)) ∧
  ∃ w_14 : World, ((Instr.storeAt 3 (.pointer ((some ⟨b_x5, 0 + 5, none⟩))) (.int .i64 (IntKind.i64.wrap t33))).run Tryz.prog w_13 = .ok () w_14) ∧
  Calls Tryz.prog 84 #[.pointer ((some ⟨b_t12, 0, none⟩)), .int .u64 1099511627776] w_14 fun e_6 w_15 =>
  ∃ t37 : Int, (e_6 = .returned (.int .u64 t37)) ∧
  ∃ w_16 : World, ((Instr.storeAt 3 (.pointer ((some ⟨b_x5, 0 + 6, none⟩))) (.int .i64 (IntKind.i64.wrap t37))).run Tryz.prog w_15 = .ok () w_16) ∧
  Calls Tryz.prog 84 #[.pointer ((some ⟨b_t12, 0, none⟩)), .int .u64 8] w_16 fun e_7 w_17 =>
  ∃ t41 : Int, (e_7 = .returned (.int .u64 t41)) ∧
  ∃ (I : Int → World → Prop) (μ : Int → World → Nat), (I 0 w_17) ∧ ∀ (z : Env) (i7 : Int) (w_18 : World), I i7 w_18 →
  Br (decide (i7 < t41))
   (Drw w_18 fun S w_19 =>
    ∃ t48 : Sl, (At S ⟨b_x5, 0 + 7, none⟩ [.slice t48.a t48.len t48.cap]) ∧
    Calls Tryz.prog 84 #[.pointer ((some ⟨b_t12, 0, none⟩)), .int .u64 1099511627776] w_19 fun e_8 w_20 =>
    ∃ t50 : Int, (e_8 = .returned (.int .u64 t50)) ∧
    (S w_20) ∧
    New (.cells #[.int .i64 (IntKind.i64.wrap t50)] 3 (0, 0)) (fun b_t52 w_21 =>
    (S w_21) ∧
    ∃ w_22 : World, ∃ t53 : Sl, ((Builtin.append_ #[28, 28] 28 #[.slice t48.a t48.len t48.cap, .slice ((some ⟨b_t52, 0, none⟩)) 1 1]).run Tryz.prog w_21 = .ok (.slice t53.a t53.len t53.cap) w_22) ∧
    ∃ w_23 : World, ((Instr.storeAt 28 (.pointer ((some ⟨b_x5, 0 + 7, none⟩))) (.slice t53.a t53.len t53.cap)).run Tryz.prog w_22 = .ok () w_23) ∧
    (I (IntKind.u64.wrap (i7 + 1)) w_23) ∧ μ (IntKind.u64.wrap (i7 + 1)) w_23 < μ i7 w_18) w_20)
   (Calls Tryz.prog 84 #[.pointer ((some ⟨b_t12, 0, none⟩)), .int .u64 600] w_18 fun e_9 w_24 =>
    ∃ t56 : Int, (e_9 = .returned (.int .u64 t56)) ∧
    ∃ (I_1 : Int → World → Prop) (μ_1 : Int → World → Nat), (I_1 0 w_24) ∧ ∀ (z_1 : Env) (i8 : Int) (w_25 : World), I_1 i8 w_25 →
    Br (decide (i8 < t56))
     (Drw w_25 fun S_1 w_26 =>
      ∃ t63 : Sl, (At S_1 ⟨b_x5, 0 + 8, none⟩ [.slice t63.a t63.len t63.cap]) ∧
      Calls Tryz.prog 85 #[.pointer ((some ⟨b_t12, 0, none⟩)), .int .i64 16] w_26 fun e_10 w_27 =>
      ∃ t65 : Sl, (e_10 = .returned (.slice t65.a t65.len t65.cap)) ∧
      (S_1 w_27) ∧
      ∃ t66 : ByteArray, (∀ w', (fun w' => w' = w_27) w' → ((convert 42 9 (.slice t65.a t65.len t65.cap))).run Tryz.prog w' = .ok (.string t66) w') ∧
      New (.cells #[.string t66] 9 (0, 0)) (fun b_t67 w_28 =>
      (S_1 w_28) ∧
      ∃ w_29 : World, ∃ t68 : Sl, ((Builtin.append_ #[29, 29] 29 #[.slice t63.a t63.len t63.cap, .slice ((some ⟨b_t67, 0, none⟩)) 1 1]).run Tryz.prog w_28 = .ok (.slice t68.a t68.len t68.cap) w_29) ∧
      (S_1 w_29) ∧
      ∃ w_30 : World, ((Instr.storeAt 29 (.pointer ((some ⟨b_x5, 0 + 8, none⟩))) (.slice t68.a t68.len t68.cap)).run Tryz.prog w_29 = .ok () w_30) ∧
      (I_1 (IntKind.u64.wrap (i8 + 1)) w_30) ∧ μ_1 (IntKind.u64.wrap (i8 + 1)) w_30 < μ_1 i8 w_25) w_27)
     (Calls Tryz.prog 86 #[.pointer ((some ⟨b_t12, 0, none⟩))] w_25 fun e_11 w_31 =>
      ∃ t71 : Bool, (e_11 = .returned (.bool t71)) ∧
      Br (!t71)
       (∃ w_32 : World, ((Instr.storeAt 31 (.pointer ((some ⟨b_t2, 0, none⟩))) (.agg #[.int .i64 0, .string (ByteArray.mk #[]), .int .i64 0, .int .i64 0, .int .i64 0, .int .i64 0, .int .i64 0, .slice none 0 0, .slice none 0 0])).run Tryz.prog w_31 = .ok () w_32) ∧
        ∃ t3 : Int, ∃ t3_1 : ByteArray, ∃ t3_2 : Int, ∃ t3_3 : Int, ∃ t3_4 : Int, ∃ t3_5 : Int, ∃ t3_6 : Int, ∃ t3_7 : Sl, ∃ t3_8 : Sl, (At (fun w' => w' = w_32) ⟨b_t2, 0, none⟩ [.int .i64 t3, .string t3_1, .int .i64 t3_2, .int .i64 t3_3, .int .i64 t3_4, .int .i64 t3_5, .int .i64 t3_6, .slice t3_7.a t3_7.len t3_7.cap, .slice t3_8.a t3_8.len t3_8.cap]) ∧
        K (.tuple #[.agg #[.int .i64 t3, .string t3_1, .int .i64 t3_2, .int .i64 t3_3, .int .i64 t3_4, .int .i64 t3_5, .int .i64 t3_6, .slice t3_7.a t3_7.len t3_7.cap, .slice t3_8.a t3_8.len t3_8.cap], .int .i64 6]) w_32)
       (∃ t75 : Int, ∃ t75_1 : ByteArray, ∃ t75_2 : Int, ∃ t75_3 : Int, ∃ t75_4 : Int, ∃ t75_5 : Int, ∃ t75_6 : Int, ∃ t75_7 : Sl, ∃ t75_8 : Sl, (At (fun w' => w' = w_31) ⟨b_x5, 0, none⟩ [.int .i64 t75, .string t75_1, .int .i64 t75_2, .int .i64 t75_3, .int .i64 t75_4, .int .i64 t75_5, .int .i64 t75_6, .slice t75_7.a t75_7.len t75_7.cap, .slice t75_8.a t75_8.len t75_8.cap]) ∧
        ∃ w_33 : World, ((Instr.storeAt 31 (.pointer ((some ⟨b_t2, 0, none⟩))) (.agg #[.int .i64 t75, .string t75_1, .int .i64 t75_2, .int .i64 t75_3, .int .i64 t75_4, .int .i64 t75_5, .int .i64 t75_6, .slice t75_7.a t75_7.len t75_7.cap, .slice t75_8.a t75_8.len t75_8.cap])).run Tryz.prog w_31 = .ok () w_33) ∧
        ∃ t3_9 : Int, ∃ t3_10 : ByteArray, ∃ t3_11 : Int, ∃ t3_12 : Int, ∃ t3_13 : Int, ∃ t3_14 : Int, ∃ t3_15 : Int, ∃ t3_16 : Sl, ∃ t3_17 : Sl, (At (fun w' => w' = w_33) ⟨b_t2, 0, none⟩ [.int .i64 t3_9, .string t3_10, .int .i64 t3_11, .int .i64 t3_12, .int .i64 t3_13, .int .i64 t3_14, .int .i64 t3_15, .slice t3_16.a t3_16.len t3_16.cap, .slice t3_17.a t3_17.len t3_17.cap]) ∧
        K (.tuple #[.agg #[.int .i64 t3_9, .string t3_10, .int .i64 t3_11, .int .i64 t3_12, .int .i64 t3_13, .int .i64 t3_14, .int .i64 t3_15, .slice t3_16.a t3_16.len t3_16.cap, .slice t3_17.a t3_17.len t3_17.cap], .int .i64 0]) w_33)))) w_4) w_1) w
def sk27 : Sk := (.seq .leaf (.seq .leaf (.seq .leaf (.seq .leaf (.seq .leaf (.seq .leaf (.seq .leaf (.seq .leaf (.seq .leaf (.seq (.seq .leaf (.block (.loop [7] [(.int .u64)] [7, 42, 43, 44, 45, 46, 47, 48, 49, 50, 51, 52, 53, 54] (.seq .leaf (.seq (.block (.block .leaf)) .leaf))))) (.seq .leaf (.seq (.seq .leaf (.block (.loop [8] [(.int .u64)] [8, 57, 58, 59, 60, 61, 62, 63, 64, 65, 66, 67, 68, 69] (.seq .leaf (.seq (.block (.block .leaf)) .leaf))))) .leaf))))))))))))
theorem ok27 : fnOk Tryz.prog Tryz.f27.ntmps Tryz.f27 sk27 = true := by kernel_rfl
theorem eq27 (b0 : Sl) (K : Value → World → Prop) (w : World) : fnF Tryz.prog cl Tryz.f27 sk27 [.slice b0.a b0.len b0.cap] K w = B27 b0 K w := by kernel_rfl
theorem call27 (b0 : Sl) (K : Value → World → Prop) (w : World) (h : B27 b0 K w) : Gets Tryz.prog 27 #[.slice b0.a b0.len b0.cap] w K :=
  calls_of (sk := sk27) cl_ok mixed Tryz.func27 ok27 (args := [.slice b0.a b0.len b0.cap]) (Nat.le_of_ble_eq_true (by kernel_rfl)) (by rw [eq27]; exact h)
def B20 (a0_0 : Int) (a0_1 : ByteArray) (a0_2 : Int) (a0_3 : Int) (a0_4 : Int) (a0_5 : Int) (a0_6 : Int) (a0_7 : Sl) (a0_8 : Sl) (b1_0 : Int) (b1_1 : ByteArray) (b1_2 : Int) (b1_3 : Int) (b1_4 : Int) (b1_5 : Int) (b1_6 : Int) (b1_7 : Sl) (b1_8 : Sl) (K : Value → World → Prop) (w : World) : Prop :=
  New (.cells #[.int .i64 a0_0, .string a0_1, .int .i64 a0_2, .int .i64 a0_3, .int .i64 a0_4, .int .i64 a0_5, .int .i64 a0_6, .slice a0_7.a a0_7.len a0_7.cap, .slice a0_8.a a0_8.len a0_8.cap] 31 (0, 0)) (fun b_a2 w_1 =>
  New (.cells #[.int .i64 b1_0, .string b1_1, .int .i64 b1_2, .int .i64 b1_3, .int .i64 b1_4, .int .i64 b1_5, .int .i64 b1_6, .slice b1_7.a b1_7.len b1_7.cap, .slice b1_8.a b1_8.len b1_8.cap] 31 (0, 0)) (fun b_b3 w_2 =>
  ∃ t8 : Sl, (At (fun w' => w' = w_2) ⟨b_a2, 0 + 7, none⟩ [.slice t8.a t8.len t8.cap]) ∧
  ∃ t10 : Sl, (At (fun w' => w' = w_2) ⟨b_b3, 0 + 7, none⟩ [.slice t10.a t10.len t10.cap]) ∧
  Calls Tryz.prog 60 #[.slice t8.a t8.len t8.cap, .slice t10.a t10.len t10.cap] w_2 fun e w_3 =>
  ∃ t11 : Bool, (e = .returned (.bool t11)) ∧
  ∃ t13 : Sl, (At (fun w' => w' = w_3) ⟨b_a2, 0 + 8, none⟩ [.slice t13.a t13.len t13.cap]) ∧
  ∃ t15 : Sl, (At (fun w' => w' = w_3) ⟨b_b3, 0 + 8, none⟩ [.slice t15.a t15.len t15.cap]) ∧
  Calls Tryz.prog 61 #[.slice t13.a t13.len t13.cap, .slice t15.a t15.len t15.cap] w_3 fun e_1 w_4 =>
  ∃ t16 : Bool, (e_1 = .returned (.bool t16)) ∧
  ∃ t18 : Int, (At (fun w' => w' = w_4) ⟨b_a2, 0, none⟩ [.int .i64 t18]) ∧
  ∃ t20 : Int, (At (fun w' => w' = w_4) ⟨b_b3, 0, none⟩ [.int .i64 t20]) ∧
  Br (t18 == t20)
   (∃ t24 : ByteArray, (At (fun w' => w' = w_4) ⟨b_a2, 0 + 1, none⟩ [.string t24]) ∧
    ∃ t26 : ByteArray, (At (fun w' => w' = w_4) ⟨b_b3, 0 + 1, none⟩ [.string t26]) ∧
    Br (t24.toList == t26.toList)
     (∃ t31 : Int, (At (fun w' => w' = w_4) ⟨b_a2, 0 + 2, none⟩ [.int .i64 t31]) ∧
      ∃ t33 : Int, (At (fun w' => w' = w_4) ⟨b_b3, 0 + 2, none⟩ [.int .i64 t33]) ∧
      Br (t31 == t33)
       (∃ t38 : Int, (At (fun w' => w' = w_4) ⟨b_a2, 0 + 3, none⟩ [.int .i64 t38]) ∧
        ∃ t40 : Int, (At (fun w' => w' = w_4) ⟨b_b3, 0 + 3, none⟩ [.int .i64 t40]) ∧
        Br (t38 == t40)
         (∃ t45 : Int, (At (fun w' => w' = w_4) ⟨b_a2, 0 + 4, none⟩ [.int .i64 t45]) ∧
          ∃ t47 : Int, (At (fun w' => w' = w_4) ⟨b_b3, 0 + 4, none⟩ [.int .i64 t47]) ∧
          Br (t45 == t47)
           (∃ t52 : Int, (At (fun w' => w' = w_4) ⟨b_a2, 0 + 5, none⟩ [.int .i64 t52]) ∧
            ∃ t54 : Int, (At (fun w' => w' = w_4) ⟨b_b3, 0 + 5, none⟩ [.int .i64 t54]) ∧
            Br (t52 == t54)
             (∃ t59 : Int, (At (fun w' => w' = w_4) ⟨b_a2, 0 + 6, none⟩ [.int .i64 t59]) ∧
              ∃ t61 : Int, (At (fun w' => w' = w_4) ⟨b_b3, 0 + 6, none⟩ [.int .i64 t61]) ∧
              Br (t59 == t61)
               (Br t11
                 (K (.bool t16) w_4)
                 (K (.bool false) w_4))
               (K (.bool false) w_4))
             (K (.bool false) w_4))
           (K (.bool false) w_4))
         (K (.bool false) w_4))
       (K (.bool false) w_4))
     (K (.bool false) w_4))
   (K (.bool false) w_4)) w_1) w
def sk20 : Sk := .leaf
theorem ok20 : fnOk Tryz.prog Tryz.f20.ntmps Tryz.f20 sk20 = true := by kernel_rfl
theorem eq20 (a0_0 : Int) (a0_1 : ByteArray) (a0_2 : Int) (a0_3 : Int) (a0_4 : Int) (a0_5 : Int) (a0_6 : Int) (a0_7 : Sl) (a0_8 : Sl) (b1_0 : Int) (b1_1 : ByteArray) (b1_2 : Int) (b1_3 : Int) (b1_4 : Int) (b1_5 : Int) (b1_6 : Int) (b1_7 : Sl) (b1_8 : Sl) (K : Value → World → Prop) (w : World) : fnF Tryz.prog cl Tryz.f20 sk20 [.agg #[.int .i64 a0_0, .string a0_1, .int .i64 a0_2, .int .i64 a0_3, .int .i64 a0_4, .int .i64 a0_5, .int .i64 a0_6, .slice a0_7.a a0_7.len a0_7.cap, .slice a0_8.a a0_8.len a0_8.cap], .agg #[.int .i64 b1_0, .string b1_1, .int .i64 b1_2, .int .i64 b1_3, .int .i64 b1_4, .int .i64 b1_5, .int .i64 b1_6, .slice b1_7.a b1_7.len b1_7.cap, .slice b1_8.a b1_8.len b1_8.cap]] K w = B20 a0_0 a0_1 a0_2 a0_3 a0_4 a0_5 a0_6 a0_7 a0_8 b1_0 b1_1 b1_2 b1_3 b1_4 b1_5 b1_6 b1_7 b1_8 K w := by kernel_rfl
theorem call20 (a0_0 : Int) (a0_1 : ByteArray) (a0_2 : Int) (a0_3 : Int) (a0_4 : Int) (a0_5 : Int) (a0_6 : Int) (a0_7 : Sl) (a0_8 : Sl) (b1_0 : Int) (b1_1 : ByteArray) (b1_2 : Int) (b1_3 : Int) (b1_4 : Int) (b1_5 : Int) (b1_6 : Int) (b1_7 : Sl) (b1_8 : Sl) (K : Value → World → Prop) (w : World) (h : B20 a0_0 a0_1 a0_2 a0_3 a0_4 a0_5 a0_6 a0_7 a0_8 b1_0 b1_1 b1_2 b1_3 b1_4 b1_5 b1_6 b1_7 b1_8 K w) : Gets Tryz.prog 20 #[.agg #[.int .i64 a0_0, .string a0_1, .int .i64 a0_2, .int .i64 a0_3, .int .i64 a0_4, .int .i64 a0_5, .int .i64 a0_6, .slice a0_7.a a0_7.len a0_7.cap, .slice a0_8.a a0_8.len a0_8.cap], .agg #[.int .i64 b1_0, .string b1_1, .int .i64 b1_2, .int .i64 b1_3, .int .i64 b1_4, .int .i64 b1_5, .int .i64 b1_6, .slice b1_7.a b1_7.len b1_7.cap, .slice b1_8.a b1_8.len b1_8.cap]] w K :=
  calls_of (sk := sk20) cl_ok mixed Tryz.func20 ok20 (args := [.agg #[.int .i64 a0_0, .string a0_1, .int .i64 a0_2, .int .i64 a0_3, .int .i64 a0_4, .int .i64 a0_5, .int .i64 a0_6, .slice a0_7.a a0_7.len a0_7.cap, .slice a0_8.a a0_8.len a0_8.cap], .agg #[.int .i64 b1_0, .string b1_1, .int .i64 b1_2, .int .i64 b1_3, .int .i64 b1_4, .int .i64 b1_5, .int .i64 b1_6, .slice b1_7.a b1_7.len b1_7.cap, .slice b1_8.a b1_8.len b1_8.cap]]) (Nat.le_of_ble_eq_true (by kernel_rfl)) (by rw [eq20]; exact h)
end Go.Proofs.YtfgbbckfikiomaaGreatDoor


/- Package booking: a writer. Condition: bounds on lengths. -/
namespace Go.Proofs.YtfgbbckfikiomaaGreatDoor
set_option linter.unusedVariables false
open Go Go.VC
variable {R : Cx} {Hs Rest : List HP} {w : World}
abbrev wrp (p : Nat) (s : Sl) : HP := pts p (.cells [.slice s.a s.len s.cap].toArray 93 (0, 0))
def WrB (p : Nat) (bs : List Int) : HP := exs fun s : Sl => Star [wrp p s, Own s 5 (b8 bs)]
theorem Sat.wrB {p : Nat} {bs : List Int} : Sat R (WrB p bs :: Hs) w ↔ ∃ s : Sl, Sat R (wrp p s :: Own s 5 (b8 bs) :: Hs) w := by
  unfold WrB
  rw [Sat.exs]
  exact ⟨fun ⟨s, h⟩ => ⟨s, Sat.star.1 h⟩, fun ⟨s, h⟩ => ⟨s, Sat.star.2 h⟩⟩
theorem nn_bd {n : Int} (h : n < 9223372036854775808) : 0 ≤ nn n ∧ nn n < 9223372036854775808 := by unfold nn; omega
theorem nn_if (n : Int) : (if 0 > n then 0 else n) = nn n := by unfold nn; split <;> omega
theorem wnums_spec {p : Nat} {s : Sl} {xs bs : List Int} (hxs : ∀ x ∈ xs, x < 9223372036854775808) (hl : bs.length + 9 * xs.length ≤ 1099511627776) (hs : RoI R s xs) (hw : Sat R (WrB p bs :: Hs) w) :
    Gets Tryz.prog 49 #[.pointer (some ⟨p, 0, none⟩), .slice s.a s.len s.cap] w fun v w' => v = .tuple #[] ∧ Sat R (WrB p (bs ++ numsB (xs.map nn)) :: Hs) w' := by
  have hlen := hs.len
  apply call49
  refine ⟨fun i w => ∃ k : Nat, i = k ∧ k ≤ xs.length ∧ Sat R (WrB p (bs ++ numsB ((xs.take k).map nn)) :: Hs) w, fun i _ => xs.length - i.toNat, ⟨0, rfl, by omega, by simpa [numsB] using hw⟩, ?_⟩
  clear hw
  rintro _ _ w ⟨k, rfl, hk, hw⟩
  refine Br.d (fun h => ?_) (fun h => ?_)
  · have hkx : k < xs.length := by omega
    have hx := nn_bd (hxs xs[k] (List.getElem_mem _))
    have hxt : ∀ x ∈ (xs.take k).map nn, 0 ≤ x ∧ x < 18446744073709551616 := fun x hx => by
      obtain ⟨y, hy, rfl⟩ := List.mem_map.1 hx
      have := nn_bd (hxs y (List.mem_of_mem_take hy)); omega
    have hnl := numsB_len hxt
    rw [List.length_map, List.length_take] at hnl
    refine Ro.ix hs (eqS hw) k rfl hkx ?_
    obtain ⟨s0, hw⟩ := Sat.wrB.1 hw
    refine drw_ruleT hw fun w hw => ?_
    refine NilP.mk rfl ⟨s0, At.own selfS (by exact ⟨rfl, trivial⟩), ?_⟩
    rw [nn_if]
    obtain ⟨n, hn⟩ := Int.eq_ofNat_of_zero_le hx.1
    rw [hn, wrapU64 (by omega) (by omega)]
    refine (number_spec (by omega) hw).use ?_
    rintro _ w ⟨t, rfl, hw⟩
    refine ⟨t, rfl, hw.absorb, ?_⟩
    have hw : Sat R (Own s0 5 (b8 (bs ++ numsB ((xs.take k).map nn))) :: Own t 5 (b8 (numB n)) :: wrp p s0 :: VC.tru :: Hs) w := hw.arr
    have hnb := numB_len (n := n) (by omega)
    refine appendOO elB8 (s := s0) (n := 1099511627790) Tryz.underlying42 hw (by rw [List.length_append]; omega) (by omega) (by omega) fun s2 w hw => ?_
    have hw : Sat R (wrp p s0 :: Own s2 5 (b8 (bs ++ numsB ((xs.take k).map nn) ++ numB n)) :: Hs) w := by
      have h : Sat R (Own t 5 (b8 (numB n)) :: VC.tru :: wrp p s0 :: Own s2 5 (b8 (bs ++ numsB ((xs.take k).map nn) ++ numB n)) :: Hs) w := hw.arr
      exact h.drop.drop
    refine NilP.mk rfl ?_
    refine store_rule hw (by kernel_rfl) rfl (by simp [Value.cells]) fun w hw => ?_
    have hw := hw.re (wrp p s2)
    rw [wrap64 (by omega) (by omega)]
    refine ⟨⟨k + 1, by omega, by omega, Sat.wrB.2 ⟨s2, ?_⟩⟩, by dsimp only; omega⟩
    have e : (xs.take (k + 1)).map nn = (xs.take k).map nn ++ [nn xs[k]] := by rw [List.take_add_one, List.getElem?_eq_getElem hkx, List.map_append]; rfl
    rw [e, numsB_app, show numsB [nn xs[k]] = numB (nn xs[k]).toNat by simp [numsB], hn, Int.toNat_natCast, ← List.append_assoc]
    exact hw
  · have : k = xs.length := by omega
    subst this
    rw [List.take_length] at hw
    exact ⟨rfl, hw⟩
theorem wtext_spec {p : Nat} {s : Sl} {d bs : List Int} (hl : bs.length + d.length ≤ 1099511627776) (hd : d.length ≤ 1099511627776) (hs : Ro R s (b8 d)) (hw : Sat R (WrB p bs :: Hs) w) :
    Gets Tryz.prog 52 #[.pointer (some ⟨p, 0, none⟩), .slice s.a s.len s.cap] w fun v w' => v = .tuple #[] ∧ Sat R (WrB p (bs ++ textB d) :: Hs) w' := by
  apply call52
  obtain ⟨s0, hw⟩ := Sat.wrB.1 hw
  refine drw_ruleT hw fun w hw => ?_
  refine NilP.mk rfl ⟨s0, At.own selfS (by exact ⟨rfl, trivial⟩), ?_⟩
  refine (ftext_spec hs hd hw).use ?_
  rintro _ w ⟨t, rfl, hw⟩
  refine ⟨t, rfl, hw.absorb, ?_⟩
  have hw : Sat R (Own s0 5 (b8 bs) :: Own t 5 (b8 (textB d)) :: wrp p s0 :: VC.tru :: Hs) w := hw.arr
  have hnb := numB_len (n := d.length) (by omega)
  have htl : (textB d).length ≤ d.length + 9 := by unfold textB; rw [List.length_append]; omega
  refine appendOO elB8 (s := s0) (n := 1099511627800) Tryz.underlying42 hw (by omega) (by omega) (by omega) fun s2 w hw => ?_
  have hw : Sat R (wrp p s0 :: Own s2 5 (b8 (bs ++ textB d)) :: Hs) w := by
    have h : Sat R (Own t 5 (b8 (textB d)) :: VC.tru :: wrp p s0 :: Own s2 5 (b8 (bs ++ textB d)) :: Hs) w := hw.arr
    exact h.drop.drop
  refine NilP.mk rfl ?_
  refine store_rule hw (by kernel_rfl) rfl (by simp [Value.cells]) fun w hw => ?_
  have hw := hw.re (wrp p s2)
  exact ⟨rfl, Sat.wrB.2 ⟨s2, hw⟩⟩
end Go.Proofs.YtfgbbckfikiomaaGreatDoor
/- Package booking: whether a command may be. Condition: bounds on lengths. -/
namespace Go.Proofs.YtfgbbckfikiomaaGreatDoor
set_option linter.unusedVariables false
open Go Go.VC
open scoped Classical
variable {R : Cx} {Hs Rest : List HP} {w : World}
abbrev cmV (c : Cm) (sg sp : Sl) : List Value := [.int .i64 c.kind, .string c.pnr, .int .i64 c.flt, .int .i64 c.cls, .int .i64 c.many, .int .i64 c.time, .float .f64 c.sc, .string c.lab, .int .i64 c.rows, .slice sg.a sg.len sg.cap, .slice sp.a sp.len sp.cap]
abbrev cmC (b : Nat) (c : Cm) (sg sp : Sl) : HP := pts b (.cells (cmV c sg sp).toArray 38 (0, 0))
theorem right_iff {c : Cm} : RightC c ↔ (∀ n ∈ [c.flt, c.cls, c.many, c.rows] ++ c.grps, numOk n) ∧ (c.pnr.size ≤ 16 ∧ c.lab.size ≤ 16) ∧ (c.grps.length ≤ 16 ∧ c.parts.length ≤ 16) ∧ 1 ≤ c.kind ∧ c.kind ≤ 9 ∧ 0 ≤ c.time ∧ c.time ≤ 1099511627776 := by
  constructor
  · intro h
    refine ⟨fun n hn => ?_, ⟨h.pnr, h.lab⟩, ⟨h.gl, h.pl⟩, h.kind.1, h.kind.2, h.time.1, h.time.2⟩
    simp only [List.cons_append, List.nil_append, List.mem_cons] at hn
    rcases hn with rfl | rfl | rfl | rfl | hn
    · exact h.flt
    · exact h.cls
    · exact h.many
    · exact h.rows
    · exact h.grps n hn
  · rintro ⟨h1, ⟨h2, h3⟩, ⟨h4, h5⟩, h6, h7, h8, h9⟩
    exact ⟨h1 _ (by simp), h1 _ (by simp), h1 _ (by simp), h1 _ (by simp), fun n hn => h1 n (by simp [hn]), h2, h3, h4, h5, ⟨h6, h7⟩, h8, h9⟩
theorem bodd_spec {n : Int} : Gets Tryz.prog 108 #[.int .i64 n] w fun v w' => v = .bool (decide (n < 0 ∨ n > 9999)) ∧ w' = w := by
  apply call108
  refine Br.d (fun h => ⟨by rw [decide_eq_true (by omega)], rfl⟩) (fun h => ⟨?_, rfl⟩)
  congr 1
  exact decide_eq_decide.2 (by omega)
set_option maxHeartbeats 400000 in
theorem bright_spec {c : Cm} {sg sp : Sl} (hg : RoI R sg c.grps) (hgl : c.grps.length ≤ 100000) (hp : sp.len = c.parts.length) (hw : Sat R Hs w) :
    Gets Tryz.prog 41 #[.agg #[.int .i64 c.kind, .string c.pnr, .int .i64 c.flt, .int .i64 c.cls, .int .i64 c.many, .int .i64 c.time, .float .f64 c.sc, .string c.lab, .int .i64 c.rows, .slice sg.a sg.len sg.cap, .slice sp.a sp.len sp.cap]] w fun v w' => v = .bool (decide (RightC c)) ∧ Sat R Hs w' := by
  have hglen := hg.len
  apply call41
  refine new_rule hw fun b w hw => ?_
  have hw : Sat R (cmC b c sg sp :: Hs) w := hw
  repeat (first | refine NilP.mk rfl ?_ | refine ⟨_, At.own selfS (by exact ⟨rfl, trivial⟩), ?_⟩ | refine ⟨_, At.own (eqS hw) (by exact ⟨rfl, trivial⟩), ?_⟩ | refine ⟨_, (by rw [add_off]; exact At.own selfS (by exact ⟨rfl, trivial⟩)), ?_⟩ | refine ⟨_, (by rw [add_off]; exact At.own (eqS hw) (by exact ⟨rfl, trivial⟩)), ?_⟩)
  refine new_rule hw fun b2 w hw => ?_
  have hw : Sat R (Own ⟨some ⟨b2, 0, none⟩, 4, 4⟩ 3 (intsI [c.flt, c.cls, c.many, c.rows]) :: cmC b c sg sp :: Hs) w := own_lit hw
  refine ⟨sg, At.own (eqS hw) (by exact ⟨rfl, trivial⟩), ?_⟩
  refine appendRI (n := 200000) (s := ⟨some ⟨b2, 0, none⟩, 4, 4⟩) (ty := 28) elI8 Tryz.underlying28 hw hg (by simp; omega) (by omega) (by omega) fun t w hw => ?_
  obtain ⟨L, hL⟩ : ∃ L, L = [c.flt, c.cls, c.many, c.rows] ++ c.grps := ⟨_, rfl⟩
  have hLl : L.length = 4 + c.grps.length := by rw [hL]; simp; omega
  rw [← hL] at hw
  have htl : t.len = L.length := by have := Own.len hw; simpa using this
  refine ⟨fun i w => ∃ k : Nat, i = k ∧ k ≤ L.length ∧ (∀ n ∈ L.take k, numOk n) ∧ Sat R (Own t 3 (intsI L) :: cmC b c sg sp :: Hs) w, fun i _ => L.length - i.toNat, ⟨0, rfl, by omega, by simp, hw⟩, ?_⟩
  clear hw
  rintro _ _ w ⟨k, rfl, hk, hok, hw⟩
  have no : ¬ RightC c → ∀ {w}, Sat R (Own t 3 (intsI L) :: cmC b c sg sp :: Hs) w → (Value.bool false = .bool (decide (RightC c)) ∧ Sat R Hs w) := fun h w hw => ⟨by rw [decide_eq_false h], hw.drop.drop⟩
  refine Br.d (fun h => ?_) (fun h => ?_)
  · have hkx : k < L.length := by omega
    refine Own.ix hw (eqS hw) k rfl hkx ?_
    refine bodd_spec.use ?_
    rintro _ w2 ⟨rfl, rfl⟩
    refine ⟨_, rfl, Br.mk (fun h2 => no (fun hr => ?_) hw) (fun h2 => ?_)⟩
    · have h3 := (right_iff.1 hr).1 L[k] (by rw [← hL]; exact List.getElem_mem hkx)
      have h4 := of_decide_eq_true h2
      unfold numOk at h3
      omega
    · rw [wrap64 (by omega) (by omega)]
      refine ⟨⟨k + 1, by omega, by omega, fun n hn => ?_, hw⟩, by dsimp only; omega⟩
      rw [List.take_add_one, List.getElem?_eq_getElem hkx] at hn
      rcases List.mem_append.1 hn with hn | hn
      · exact hok n hn
      · rw [show n = L[k] by simpa using hn]
        have h4 := of_decide_eq_false h2
        unfold numOk
        omega
  · have hall : ∀ n ∈ L, numOk n := by rw [List.take_of_length_le (by omega)] at hok; exact hok
    refine ⟨fun t6 w => t6 = decide (c.pnr.size ≤ 16 ∧ c.lab.size ≤ 16) ∧ Sat R (Own t 3 (intsI L) :: cmC b c sg sp :: Hs) w, ⟨c.pnr, At.own (eqS hw) (by exact ⟨rfl, trivial⟩), Br.d (fun h => ?_) (fun h => ?_)⟩, ?_⟩
    · refine ⟨c.lab, At.own (eqS hw) (by exact ⟨rfl, trivial⟩), ?_, hw⟩
      exact decide_eq_decide.2 (by omega)
    · exact ⟨by rw [decide_eq_false (by omega)], hw⟩
    clear hw
    rintro _ _ w ⟨rfl, hw⟩
    refine ⟨fun t7 w => t7 = decide (c.grps.length ≤ 16 ∧ c.parts.length ≤ 16) ∧ Sat R (Own t 3 (intsI L) :: cmC b c sg sp :: Hs) w, ⟨sg, At.own (eqS hw) (by exact ⟨rfl, trivial⟩), Br.d (fun h => ?_) (fun h => ?_)⟩, ?_⟩
    · refine ⟨sp, At.own (eqS hw) (by exact ⟨rfl, trivial⟩), ?_, hw⟩
      exact decide_eq_decide.2 (by omega)
    · exact ⟨by rw [decide_eq_false (by omega)], hw⟩
    clear hw
    rintro _ _ w ⟨rfl, hw⟩
    have no2 : ¬ RightC c → (Value.bool false = .bool (decide (RightC c)) ∧ Sat R Hs w) := fun h => no h hw
    refine Br.d (fun h1 => ?_) (fun h1 => no2 fun hr => h1 (right_iff.1 hr).2.1)
    refine Br.d (fun h2 => ?_) (fun h2 => no2 fun hr => h2 (right_iff.1 hr).2.2.1)
    refine ⟨c.kind, At.own (eqS hw) (by exact ⟨rfl, trivial⟩), Br.d (fun h3 => ?_) (fun h3 => no2 fun hr => h3 (right_iff.1 hr).2.2.2.1)⟩
    refine ⟨c.kind, At.own (eqS hw) (by exact ⟨rfl, trivial⟩), Br.d (fun h4 => ?_) (fun h4 => no2 fun hr => h4 (right_iff.1 hr).2.2.2.2.1)⟩
    refine ⟨c.time, At.own (eqS hw) (by exact ⟨rfl, trivial⟩), Br.d (fun h5 => ?_) (fun h5 => no2 fun hr => h5 (right_iff.1 hr).2.2.2.2.2.1)⟩
    refine ⟨c.time, At.own (eqS hw) (by exact ⟨rfl, trivial⟩), ?_, hw.drop.drop⟩
    congr 1
    refine decide_eq_decide.2 ?_
    rw [right_iff, ← hL]
    exact ⟨fun h6 => ⟨hall, h1, h2, h3, h4, h5, h6⟩, fun h6 => h6.2.2.2.2.2.2⟩
end Go.Proofs.YtfgbbckfikiomaaGreatDoor
/- Package booking: a writer's steps, as Encode and Answer take them. Condition: bounds on lengths. -/
namespace Go.Proofs.YtfgbbckfikiomaaGreatDoor
set_option linter.unusedVariables false
open Go Go.VC
variable {R : Cx} {Hs Rest : List HP} {w : World}
theorem wlit_spec {p b n : Nat} {xs bs : List Int} (hn : n = xs.length) (hxs : ∀ x ∈ xs, x < 9223372036854775808) (hl : bs.length + 9 * xs.length ≤ 1099511627776) (hw : Sat R (pts b (.cells (intsI xs).toArray 3 (0, 0)) :: WrB p bs :: Hs) w) :
    Gets Tryz.prog 49 #[.pointer (some ⟨p, 0, none⟩), .slice (some ⟨b, 0, none⟩) n n] w fun v w' => v = .tuple #[] ∧ Sat R (WrB p (bs ++ numsB (xs.map nn)) :: Hs) w' := by
  have hw : Sat R (Own ⟨some ⟨b, 0, none⟩, n, n⟩ 3 (intsI xs) :: WrB p bs :: Hs) w := own_lit hw (by rw [List.length_map]; exact hn)
  obtain ⟨R', hr, _, hw, back⟩ := Own.lendI hw (by omega)
  refine (wnums_spec hxs hl hr hw).use ?_
  rintro _ w ⟨rfl, hw⟩
  exact ⟨_, rfl, rfl, (back hw).drop⟩
theorem wstr_rule {p : Nat} {s : ByteArray} {bs : List Int} {K : World → Prop} (hl : bs.length + s.size ≤ 1099511627776) (hw : Sat R (WrB p bs :: Hs) w) (k : ∀ w', Sat R (WrB p (bs ++ strB s) :: Hs) w' → K w') :
    ∃ w_1 : World, ∃ t : Sl, ((convert 9 42 (.string s)).run Tryz.prog w = .ok (.slice t.a t.len t.cap) w_1) ∧
      Calls Tryz.prog 52 #[.pointer (some ⟨p, 0, none⟩), .slice t.a t.len t.cap] w_1 fun e w_2 => (e = .returned (.tuple #[])) ∧ K w_2 := by
  refine convB_rule Tryz.underlying9 Tryz.underlying42 Tryz.underlying5 hw fun t w hw => ?_
  have hsz := bytesL_len s
  obtain ⟨R', hr, _, hw, back⟩ := Own.lend hw (by rw [List.length_map]; omega)
  refine (wtext_spec (by omega) (by omega) hr hw).use ?_
  rintro _ w ⟨rfl, hw⟩
  exact ⟨rfl, k _ (back hw).drop⟩
end Go.Proofs.YtfgbbckfikiomaaGreatDoor
/- Package booking: Encode. Condition: bounds on lengths; words. -/
namespace Go.Proofs.YtfgbbckfikiomaaGreatDoor
set_option linter.unusedVariables false
open Go Go.VC
open scoped Classical
variable {R : Cx} {Hs Rest : List HP} {w : World}
theorem strB_len {s : ByteArray} (h : s.size ≤ 100000) : (strB s).length ≤ s.size + 9 := by
  have := textB_len (d := bytesL s) (by rw [bytesL_len]; omega)
  rw [bytesL_len] at this
  exact this
theorem numsB_sp (a : Int) (l : List Int) : numsB (a :: l) = numsB [a] ++ numsB l := numsB_one a l
theorem nn1 {a : Int} (h : 0 ≤ a) : numsB ([a].map nn) = numsB [a] := by
  show numsB [nn a] = _
  rw [nn_id h]
theorem wlist_spec {p : Nat} {s : Sl} {xs bs : List Int} (hxs : ∀ x ∈ xs, x < 9223372036854775808) (hx : xs.length ≤ 100000) (hl : bs.length ≤ 1000000) (hs : RoI R s xs) (hw : Sat R (WrB p bs :: Hs) w) :
    Gets Tryz.prog 75 #[.pointer (some ⟨p, 0, none⟩), .slice s.a s.len s.cap] w fun v w' => v = .tuple #[] ∧ Sat R (WrB p (bs ++ numsB [(xs.length : Int)] ++ numsB (xs.map nn)) :: Hs) w' := by
  have hlen := hs.len
  have l1 := nums1_len (x := (xs.length : Int)) (by omega)
  apply call75
  refine new_rule hw fun b w hw => ?_
  refine (wlit_spec (xs := [(s.len : Int)]) rfl (by simp; omega) (by simp only [List.length_cons, List.length_nil]; omega) hw).use ?_
  clear hw
  rintro _ w ⟨rfl, hw⟩
  refine ⟨rfl, ?_⟩
  rw [nn1 (by omega), show ((s.len : Nat) : Int) = (xs.length : Int) by omega] at hw
  refine (wnums_spec hxs (by simp only [List.length_append]; omega) hs hw).use ?_
  rintro _ w ⟨rfl, hw⟩
  exact ⟨rfl, rfl, hw⟩
end Go.Proofs.YtfgbbckfikiomaaGreatDoor
