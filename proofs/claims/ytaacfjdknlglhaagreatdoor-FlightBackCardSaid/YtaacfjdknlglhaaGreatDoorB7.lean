/- Both flights side by side: fresh, awake, few, do, alike. Condition: bounds. -/
import Derived.Test.YtaacfjdknlglhaaGreatDoorB6
import Derived.Test.YtaacfjdknlglhaaGreatDoorB1
import Derived.ProofKit
import Derived.OpenShut
import Derived.ShutString
import Derived.ChangeOld
import Derived.Below
import Derived.Lib.SmallJoins
import Derived.Test.YtaacfjdknlglhaaGreatDoorB2
namespace Go.Proofs.YtaacfjdknlglhaaGreatDoor
set_option linter.unusedVariables false
open Go Go.VC

variable {R R' : Cx} {Hs Rest : List HP} {w : World}

def PairAt (p q : Nat) (r : RF) : HP := exs fun f : PF => Star [pur (Tie f r ∧ Good r), FlightAt p f, RFAt q r]
theorem Sat.pair {p q : Nat} {r : RF} : Sat R (PairAt p q r :: Hs) w ↔ ∃ f, (Tie f r ∧ Good r) ∧ Sat R (FlightAt p f :: RFAt q r :: Hs) w := by
  unfold PairAt
  rw [Sat.exs]
  constructor
  · rintro ⟨f, h⟩
    obtain ⟨h1, h2⟩ := Sat.pur.1 (Sat.star.1 h)
    exact ⟨f, h1, h2⟩
  · rintro ⟨f, h1, h2⟩
    exact ⟨f, Sat.star.2 (Sat.pur.2 ⟨h1, h2⟩)⟩

theorem Good.hcls {r : RF} (g : Good r) : ∀ x ∈ r.L, HCls r.lims.length x := fun x hx => by
  have h1 := g.each x hx
  have h2 := g.len.2 x hx
  exact ⟨h1.cls, by have := h1.many; omega⟩
theorem Good.hseats {r : RF} (g : Good r) : ∀ x ∈ r.L, x.seats.length ≤ 1000 := fun x hx => by have := (good_in g x hx).n; omega
theorem Good.hgrps {r : RF} (g : Good r) : r.grps.length ≤ 1000 := by have := (layOk_iff.1 g.lay).1; omega
theorem Good.hlims {r : RF} (g : Good r) : r.lims.length ≤ 1000 := by have := (good_lims g).2.2; omega
theorem Good.hL {r : RF} (g : Good r) : r.L.length ≤ 1000000 := by have := g.len.1; omega
theorem find_in {n : Int} {g : List Int} {lab : ByteArray} {k : Int} (h : findT n g lab = (k, 0)) : 0 ≤ k ∧ k < layN n g := by
  unfold findT at h
  split at h
  · rename_i hl
    obtain ⟨l1, l2, l3⟩ := layOk_iff.1 hl
    have := (find_iff (n := n) (w := g.sum) (k := k) (lab := lab) (by omega) (sum_pos l2 l1.2.2.1) l3).1 h
    rw [layN_ok hl]
    exact ⟨this.1, this.2.1⟩
  · cases h

/-! ### fresh -/
theorem fresh_spec {num rows : Int} {sg sp : Sl} {grps : List Int} {parts : List Nat} (hg : RoI R sg grps) (hp : SlR R.m sp (flts parts)) (hw : Sat R Hs w) :
    Gets Tryz.prog 14 #[.agg #[.int .i64 num, .int .i64 rows, .slice sg.a sg.len sg.cap, .slice sp.a sp.len sp.cap]] w fun v w' =>
      (¬ newOk num rows grps parts ∧ v = .tuple #[.pointer none, .pointer none, .bool true] ∧ Sat R Hs w') ∨
      (newOk num rows grps parts ∧ ∃ p q, v = .tuple #[.pointer (some ⟨p, 0, none⟩), .pointer (some ⟨q, 0, none⟩), .bool true] ∧ Sat R (PairAt p q (rnewF num rows grps (limitsT (layN rows grps) parts).1) :: Hs) w') := by
  apply call14
  refine new_rule hw fun b w hw => ?_
  have hw : Sat R (pts b (.cells [.int .i64 num, .int .i64 rows, .slice sg.a sg.len sg.cap, .slice sp.a sp.len sp.cap].toArray 38 (0, 0)) :: Hs) w := hw
  refine ⟨num, At.own (eqS hw) (by exact ⟨rfl, trivial⟩), rows, sg, At.own (eqS hw) (by exact ⟨rfl, rfl, trivial⟩), sp, At.own (eqS hw) (by exact ⟨rfl, trivial⟩), ?_⟩
  refine (fnew_spec' hg hp hw).use ?_
  clear hw
  rintro _ w (⟨hn, rfl, hw⟩ | ⟨hn, p, rfl, hw⟩)
  · refine ⟨_, _, rfl, num, At.own (eqS hw) (by exact ⟨rfl, trivial⟩), rows, sg, At.own (eqS hw) (by exact ⟨rfl, rfl, trivial⟩), sp, At.own (eqS hw) (by exact ⟨rfl, trivial⟩), ?_⟩
    refine (rnew_fspec hg hp hw).use ?_
    clear hw
    rintro _ w (⟨_, rfl, hw⟩ | ⟨hn2, _⟩)
    · exact ⟨_, _, rfl, Br.t rfl (.inl ⟨hn, rfl, hw.drop⟩)⟩
    · exact absurd hn2 hn
  · have hw : Sat R (pts b (.cells [.int .i64 num, .int .i64 rows, .slice sg.a sg.len sg.cap, .slice sp.a sp.len sp.cap].toArray 38 (0, 0)) :: FlightAt p (emptyF num rows grps (limitsT (layN rows grps) parts).1) :: Hs) w := hw.swap
    refine ⟨_, _, rfl, num, At.own (eqS hw) (by exact ⟨rfl, trivial⟩), rows, sg, At.own (eqS hw) (by exact ⟨rfl, rfl, trivial⟩), sp, At.own (eqS hw) (by exact ⟨rfl, trivial⟩), ?_⟩
    refine (rnew_fspec hg hp hw).use ?_
    clear hw
    rintro _ w (⟨hn2, _⟩ | ⟨_, q, rfl, hw⟩)
    · exact absurd hn hn2
    · refine ⟨_, _, rfl, Br.t rfl (.inr ⟨hn, p, q, rfl, ?_⟩)⟩
      exact Sat.pair.2 ⟨_, ⟨tie_new, good_new hn⟩, (hw.swap.drop).swap⟩

/-! ### awake, few -/
def awP : List Nat := [4607182418800017408, 4602678819172646912]
theorem aw_lims : limitsT (layN 1 [2, 2]) awP = ([4, 2], 0) := by kernel_rfl
theorem aw_left : rleftsF (rnewF 7 1 [2, 2] [4, 2]) = [4, 2] := by kernel_rfl
theorem aw_ok : newOk 7 1 [2, 2] awP := ⟨by omega, by omega, by kernel_rfl, by rw [aw_lims]⟩
theorem left_pair {p q : Nat} {r : RF} (hw : Sat R (PairAt p q r :: Hs) w) : Gets Tryz.prog 29 #[.pointer (some ⟨p, 0, none⟩)] w fun v w' => ∃ t : Sl, v = .slice t.a t.len t.cap ∧ Sat R (Own t 3 (intsI (rleftsF r)) :: PairAt p q r :: Hs) w' := by
  obtain ⟨f, ⟨t, g⟩, hw⟩ := Sat.pair.1 hw
  have b := t.bounds g
  refine (left_fspec (by omega) (by omega) hw).use ?_
  rintro _ w ⟨s, rfl, hw⟩
  rw [tie_left t] at hw
  exact ⟨_, rfl, s, rfl, hw.cons fun _ h => Sat.pair.2 ⟨f, ⟨t, g⟩, h⟩⟩

theorem awake_spec (hw : Sat R Hs w) : Gets Tryz.prog 9 #[] w fun v w' => v = .bool true ∧ Sat R Hs w' := by
  apply call9
  refine new_rule hw fun b6 w hw => new_rule hw fun b8 w hw => ?_
  have hw : Sat R (pts b8 (.cells (flts awP).toArray 66 (0, 0)) :: pts b6 (.cells (intsI [2, 2]).toArray 3 (0, 0)) :: Hs) w := hw
  have hw := (own_lit (n := 2) hw).cons fun _ h => own_lit (n := 2) h
  obtain ⟨R1, e1, g1, hw⟩ := Own.leak hw
  obtain ⟨R2, e2, g2, hw⟩ := Own.leak hw
  refine (fresh_spec (num := 7) (rows := 1) (sg := ⟨some ⟨b6, 0, none⟩, 2, 2⟩) (sp := ⟨some ⟨b8, 0, none⟩, 2, 2⟩) (g2.ro (by simp)) (e2.slR g1) hw).use ?_
  clear hw
  rintro _ w (⟨hn, _⟩ | ⟨_, p, q, rfl, hw⟩)
  · exact absurd aw_ok hn
  rw [aw_lims] at hw
  refine ⟨_, _, _, rfl, fun w => Sat R2 (PairAt p q (rnewF 7 1 [2, 2] [4, 2]) :: Hs) w, Br.f rfl (Br.f rfl hw), ?_⟩
  clear hw
  rintro _ w hw
  refine (left_pair hw).use ?_
  clear hw
  rintro _ w ⟨t, rfl, hw⟩
  rw [aw_left] at hw
  have htl := Own.len hw
  refine ⟨t, rfl, Br.t (by rw [htl]; rfl) ?_⟩
  refine Own.ix hw (eqS hw) 0 rfl (by simp) (Br.t rfl ?_)
  refine Own.ix hw (eqS hw) 1 rfl (by simp) ⟨rfl, ?_⟩
  exact e1.back (e2.back hw.drop.drop)

theorem few_spec {num rows : Int} {sg sp l : Sl} (hw : Sat R Hs w) : Gets Tryz.prog 13 #[.agg #[.int .i64 num, .int .i64 rows, .slice sg.a sg.len sg.cap, .slice sp.a sp.len sp.cap], .slice l.a l.len l.cap] w fun v w' => v = .bool (decide (sg.len ≤ 100 ∧ sp.len ≤ 100)) ∧ Sat R Hs w' := by
  apply call13
  refine new_rule hw fun b w hw => ?_
  have hw : Sat R (pts b (.cells [.int .i64 num, .int .i64 rows, .slice sg.a sg.len sg.cap, .slice sp.a sp.len sp.cap].toArray 38 (0, 0)) :: Hs) w := hw
  refine ⟨sg, At.own (eqS hw) (by exact ⟨rfl, trivial⟩), Br.d (fun h1 => ⟨sp, At.own (eqS hw) (by exact ⟨rfl, trivial⟩), ?_, hw.drop⟩) (fun h1 => ⟨?_, hw.drop⟩)⟩
  · congr 1
    rw [decide_eq_decide]; omega
  · rw [decide_eq_false]; omega

/-! ### do -/
structure StepL where
  d : Int
  owner : Int
  cls : Int
  many : Int
  label : ByteArray
def stepV (s : StepL) : List Value := [.int .i64 s.d, .int .i64 s.owner, .int .i64 s.cls, .int .i64 s.many, .string s.label]
def stepR (r : RF) (s : StepL) : RF :=
  if s.d = 0 then (rtakeF r s.owner s.cls s.many).1 else if s.d = 1 then (rgiveF r s.owner).1 else if s.d = 2 then (rseatF r s.owner s.label).1 else if s.d = 3 then (runseatF r s.owner s.label).1 else (rautoF r s.owner).1

theorem do_spec {p q : Nat} {r : RF} {s : StepL} (hl : s.label.size ≤ 9223372036854775807) (hw : Sat R (PairAt p q r :: Hs) w) :
    Gets Tryz.prog 15 #[.pointer (some ⟨p, 0, none⟩), .pointer (some ⟨q, 0, none⟩), .agg #[.int .i64 s.d, .int .i64 s.owner, .int .i64 s.cls, .int .i64 s.many, .string s.label]] w fun v w' => v = .bool true ∧ Sat R (PairAt p q (stepR r s) :: Hs) w' := by
  obtain ⟨f, ⟨t, g⟩, hw⟩ := Sat.pair.1 hw
  have b := t.bounds g
  have hR : ∀ e ∈ f.hs, Rise e.2.seats ∧ e.2.seats.length ≤ 1000000 := fun e he => by have := b.2.2.2.2.2.1 e he; exact ⟨this.1, by omega⟩
  have hL := g.hL
  have hlm := g.hlims
  have hgr := g.hgrps
  apply call15
  suffices H : ∀ K : Value → World → Prop, (∀ w', Sat R (PairAt p q (stepR r s) :: Hs) w' → K (.bool true) w') → B15 (some ⟨p, 0, none⟩) (some ⟨q, 0, none⟩) s.d s.owner s.cls s.many s.label K w from H _ fun w' h => ⟨rfl, h⟩
  intro K hK
  refine new_rule hw fun bs w hw => ?_
  have hw : Sat R (pts bs (.cells (stepV s).toArray 45 (0, 0)) :: FlightAt p f :: RFAt q r :: Hs) w := hw
  refine ⟨s.d, At.own (eqS hw) (by exact ⟨rfl, trivial⟩), Br.e (fun h0 => ?_) (fun h0 => Br.e (fun h1 => ?_) (fun h1 => Br.e (fun h2 => ?_) (fun h2 => Br.e (fun h3 => ?_) (fun h3 => ?_))))⟩
  · rw [show stepR r s = (rtakeF r s.owner s.cls s.many).1 by unfold stepR; rw [if_pos h0]] at hK
    obtain ⟨e, t', g'⟩ := tie_take t g s.owner s.cls s.many
    refine ⟨s.owner, At.own (eqS hw) (by exact ⟨rfl, trivial⟩), s.cls, At.own (eqS hw) (by exact ⟨rfl, trivial⟩), s.many, At.own (eqS hw) (by exact ⟨rfl, trivial⟩), ?_⟩
    refine (take_fspec (by omega) (by omega) hw.swap).use ?_
    clear hw
    rintro _ w ⟨rfl, hw⟩
    have hw := hw.swap
    refine ⟨_, rfl, s.owner, At.own (eqS hw) (by exact ⟨rfl, trivial⟩), s.cls, At.own (eqS hw) (by exact ⟨rfl, trivial⟩), s.many, At.own (eqS hw) (by exact ⟨rfl, trivial⟩), ?_⟩
    refine (rtake_fspec hL hlm g.hcls (hw.take (RFAt q r))).use ?_
    clear hw
    rintro _ w ⟨rfl, hw⟩
    refine ⟨_, rfl, ?_⟩
    rw [e, beq_self_eq_true]
    exact hK _ (Sat.pair.2 ⟨_, ⟨t', g'⟩, (hw.swap.drop).swap⟩)
  · rw [show stepR r s = (rgiveF r s.owner).1 by unfold stepR; rw [if_neg h0, if_pos h1]] at hK
    obtain ⟨e, t', g'⟩ := tie_give t g s.owner
    refine ⟨s.owner, At.own (eqS hw) (by exact ⟨rfl, trivial⟩), ?_⟩
    refine (give_fspec (by omega) (by omega) (fun e he => (hR e he).2) hw.swap).use ?_
    clear hw
    rintro _ w ⟨rfl, hw⟩
    have hw := hw.swap
    refine ⟨_, rfl, s.owner, At.own (eqS hw) (by exact ⟨rfl, trivial⟩), ?_⟩
    refine (rgive_fspec hL (hw.take (RFAt q r))).use ?_
    clear hw
    rintro _ w ⟨rfl, hw⟩
    refine ⟨_, rfl, ?_⟩
    rw [e, beq_self_eq_true]
    exact hK _ (Sat.pair.2 ⟨_, ⟨t', g'⟩, (hw.swap.drop).swap⟩)
  · rw [show stepR r s = (rseatF r s.owner s.label).1 by unfold stepR; rw [if_neg h0, if_neg h1, if_pos h2]] at hK
    obtain ⟨e, t', g'⟩ := tie_seat t g s.owner s.label fun k hk => find_in hk
    refine ⟨s.owner, At.own (eqS hw) (by exact ⟨rfl, trivial⟩), s.label, At.own (eqS hw) (by exact ⟨rfl, trivial⟩), ?_⟩
    refine (seat_fspec (by omega) hl hR hw.swap).use ?_
    clear hw
    rintro _ w ⟨rfl, hw⟩
    have hw := hw.swap
    refine ⟨_, rfl, s.owner, At.own (eqS hw) (by exact ⟨rfl, trivial⟩), s.label, At.own (eqS hw) (by exact ⟨rfl, trivial⟩), ?_⟩
    refine (rseat_fspec hL hgr g.hseats (hw.take (RFAt q r))).use ?_
    clear hw
    rintro _ w ⟨rfl, hw⟩
    refine ⟨_, rfl, ?_⟩
    rw [e, beq_self_eq_true]
    exact hK _ (Sat.pair.2 ⟨_, ⟨t', g'⟩, (hw.swap.drop).swap⟩)
  · rw [show stepR r s = (runseatF r s.owner s.label).1 by unfold stepR; rw [if_neg h0, if_neg h1, if_neg h2, if_pos h3]] at hK
    obtain ⟨e, t', g'⟩ := tie_unseat t g s.owner s.label
    refine ⟨s.owner, At.own (eqS hw) (by exact ⟨rfl, trivial⟩), s.label, At.own (eqS hw) (by exact ⟨rfl, trivial⟩), ?_⟩
    refine (unseat_fspec (by omega) hl (fun e he => (hR e he).2) hw.swap).use ?_
    clear hw
    rintro _ w ⟨rfl, hw⟩
    have hw := hw.swap
    refine ⟨_, rfl, s.owner, At.own (eqS hw) (by exact ⟨rfl, trivial⟩), s.label, At.own (eqS hw) (by exact ⟨rfl, trivial⟩), ?_⟩
    refine (runseat_fspec hL hgr g.hseats (hw.take (RFAt q r))).use ?_
    clear hw
    rintro _ w ⟨rfl, hw⟩
    refine ⟨_, rfl, ?_⟩
    rw [e, beq_self_eq_true]
    exact hK _ (Sat.pair.2 ⟨_, ⟨t', g'⟩, (hw.swap.drop).swap⟩)
  · rw [show stepR r s = (rautoF r s.owner).1 by unfold stepR; rw [if_neg h0, if_neg h1, if_neg h2, if_neg h3]] at hK
    obtain ⟨e, t', g', _⟩ := tie_auto t g s.owner
    have hlen : (rautoF r s.owner).2.1.length ≤ 1000000 := by
      unfold rautoF
      split
      · simp
      · split
        · simp
        · split
          · show (labsF _ _ _).length ≤ _
            unfold labsF
            rw [List.length_map]
            exact Nat.le_trans best_len (by omega)
          · simp
    refine ⟨s.owner, At.own (eqS hw) (by exact ⟨rfl, trivial⟩), ?_⟩
    refine (auto_fspec (by omega) t.nod (fun k hk => by have := t.ownIn g k hk; have := layN_bd r.rows r.grps; omega) (by omega) hw.swap).use ?_
    clear hw
    rintro _ w ⟨t1, rfl, hw⟩
    rw [e] at hw ⊢
    have hw := hw.take (pts bs (.cells (stepV s).toArray 45 (0, 0)))
    refine ⟨_, _, rfl, s.owner, At.own (eqS hw) (by exact ⟨rfl, trivial⟩), ?_⟩
    refine (rauto_fspec hL hgr g.hseats (hw.take (RFAt q r))).use ?_
    clear hw
    rintro _ w ⟨t2, rfl, hw⟩
    refine ⟨_, _, rfl, ?_⟩
    obtain ⟨R1, e1, s1, hw⟩ := Own.leak hw
    obtain ⟨R2, e2, s2, hw⟩ := Own.leak (hw.take (Own t1 9 ((rautoF r s.owner).2.1.map Value.string)))
    refine (sameT_spec (s := t1) (t := t2) (a := (rautoF r s.owner).2.1) (b := (rautoF r s.owner).2.1) (s2.ro (by rw [List.length_map]; omega)) ((e2.slR s1).ro (by rw [List.length_map]; omega)) hw).use ?_
    clear hw
    rintro _ w ⟨rfl, hw⟩
    refine ⟨_, rfl, Br.t (by simp) ?_⟩
    rw [beq_self_eq_true]
    have hw := e1.back (e2.back hw)
    exact hK _ (Sat.pair.2 ⟨_, ⟨t', g'⟩, (hw.swap.drop).swap⟩)
end Go.Proofs.YtaacfjdknlglhaaGreatDoor
/- The program's flight alone, told by the document's; alike; how the laws begin. Condition: bounds. -/
namespace Go.Proofs.YtaacfjdknlglhaaGreatDoor
set_option linter.unusedVariables false
open Go Go.VC

variable {R R' : Cx} {Hs Rest : List HP} {w : World}

def LoneAt (p : Nat) (r : RF) : HP := exs fun f : PF => Star [pur (Tie f r ∧ Good r), FlightAt p f]
theorem Sat.lone {p : Nat} {r : RF} : Sat R (LoneAt p r :: Hs) w ↔ ∃ f, (Tie f r ∧ Good r) ∧ Sat R (FlightAt p f :: Hs) w := by
  unfold LoneAt
  rw [Sat.exs]
  constructor
  · rintro ⟨f, h⟩
    obtain ⟨h1, h2⟩ := Sat.pur.1 (Sat.star.1 h)
    exact ⟨f, h1, h2⟩
  · rintro ⟨f, h1, h2⟩
    exact ⟨f, Sat.star.2 (Sat.pur.2 ⟨h1, h2⟩)⟩
theorem PairAt.open {p q : Nat} {r : RF} (hw : Sat R (PairAt p q r :: Hs) w) : Good r ∧ Sat R (LoneAt p r :: RFAt q r :: Hs) w := by
  obtain ⟨f, h, hw⟩ := Sat.pair.1 hw
  exact ⟨h.2, Sat.lone.2 ⟨f, h, hw⟩⟩
theorem PairAt.close {p q : Nat} {r : RF} (hw : Sat R (LoneAt p r :: RFAt q r :: Hs) w) : Sat R (PairAt p q r :: Hs) w := by
  obtain ⟨f, h, hw⟩ := Sat.lone.1 hw
  exact Sat.pair.2 ⟨f, h, hw⟩

section
variable {p : Nat} {r : RF}
theorem lone_good (hw : Sat R (LoneAt p r :: Hs) w) : Good r := let ⟨_, h, _⟩ := Sat.lone.1 hw; h.2
theorem lone_take {o c m : Int} (hw : Sat R (LoneAt p r :: Hs) w) : Gets Tryz.prog 26 #[.pointer (some ⟨p, 0, none⟩), .int .i64 o, .int .i64 c, .int .i64 m] w fun v w' => v = .int .i64 (rtakeF r o c m).2 ∧ Sat R (LoneAt p (rtakeF r o c m).1 :: Hs) w' := by
  obtain ⟨f, ⟨t, g⟩, hw⟩ := Sat.lone.1 hw
  have b := t.bounds g
  obtain ⟨e, t', g'⟩ := tie_take t g o c m
  refine (take_fspec (by omega) (by omega) hw).use ?_
  rintro _ w ⟨rfl, hw⟩
  exact ⟨_, rfl, by rw [e], Sat.lone.2 ⟨_, ⟨t', g'⟩, hw⟩⟩
theorem lone_give {o : Int} (hw : Sat R (LoneAt p r :: Hs) w) : Gets Tryz.prog 27 #[.pointer (some ⟨p, 0, none⟩), .int .i64 o] w fun v w' => v = .int .i64 (rgiveF r o).2 ∧ Sat R (LoneAt p (rgiveF r o).1 :: Hs) w' := by
  obtain ⟨f, ⟨t, g⟩, hw⟩ := Sat.lone.1 hw
  have b := t.bounds g
  obtain ⟨e, t', g'⟩ := tie_give t g o
  refine (give_fspec (by omega) (by omega) (fun e he => by have := b.2.2.2.2.2.1 e he; omega) hw).use ?_
  rintro _ w ⟨rfl, hw⟩
  exact ⟨_, rfl, by rw [e], Sat.lone.2 ⟨_, ⟨t', g'⟩, hw⟩⟩
theorem lone_seat {o : Int} {lab : ByteArray} (hl : lab.size ≤ 9223372036854775807) (hw : Sat R (LoneAt p r :: Hs) w) : Gets Tryz.prog 24 #[.pointer (some ⟨p, 0, none⟩), .int .i64 o, .string lab] w fun v w' => v = .int .i64 (rseatF r o lab).2 ∧ Sat R (LoneAt p (rseatF r o lab).1 :: Hs) w' := by
  obtain ⟨f, ⟨t, g⟩, hw⟩ := Sat.lone.1 hw
  have b := t.bounds g
  obtain ⟨e, t', g'⟩ := tie_seat t g o lab fun k hk => find_in hk
  refine (seat_fspec (by omega) hl (fun e he => by have := b.2.2.2.2.2.1 e he; exact ⟨this.1, by omega⟩) hw).use ?_
  rintro _ w ⟨rfl, hw⟩
  exact ⟨_, rfl, by rw [e], Sat.lone.2 ⟨_, ⟨t', g'⟩, hw⟩⟩
theorem lone_unseat {o : Int} {lab : ByteArray} (hl : lab.size ≤ 9223372036854775807) (hw : Sat R (LoneAt p r :: Hs) w) : Gets Tryz.prog 25 #[.pointer (some ⟨p, 0, none⟩), .int .i64 o, .string lab] w fun v w' => v = .int .i64 (runseatF r o lab).2 ∧ Sat R (LoneAt p (runseatF r o lab).1 :: Hs) w' := by
  obtain ⟨f, ⟨t, g⟩, hw⟩ := Sat.lone.1 hw
  have b := t.bounds g
  obtain ⟨e, t', g'⟩ := tie_unseat t g o lab
  refine (unseat_fspec (by omega) hl (fun e he => by have := b.2.2.2.2.2.1 e he; omega) hw).use ?_
  rintro _ w ⟨rfl, hw⟩
  exact ⟨_, rfl, by rw [e], Sat.lone.2 ⟨_, ⟨t', g'⟩, hw⟩⟩
theorem lone_auto {o : Int} (hw : Sat R (LoneAt p r :: Hs) w) : Gets Tryz.prog 19 #[.pointer (some ⟨p, 0, none⟩), .int .i64 o] w fun v w' => ∃ t : Sl, v = .tuple #[.slice t.a t.len t.cap, .int .i64 (rautoF r o).2.2] ∧ Sat R (Own t 9 ((rautoF r o).2.1.map Value.string) :: LoneAt p (rautoF r o).1 :: Hs) w' := by
  obtain ⟨f, ⟨t, g⟩, hw⟩ := Sat.lone.1 hw
  have b := t.bounds g
  obtain ⟨e, t', g', _⟩ := tie_auto t g o
  refine (auto_fspec (by omega) t.nod (fun k hk => by have := t.ownIn g k hk; have := layN_bd r.rows r.grps; omega) (by omega) hw).use ?_
  rintro _ w ⟨s, rfl, hw⟩
  rw [e] at hw
  exact ⟨_, rfl, s, by rw [e], hw.cons fun _ h => Sat.lone.2 ⟨_, ⟨t', g'⟩, h⟩⟩
theorem lone_holds (hw : Sat R (LoneAt p r :: Hs) w) : Gets Tryz.prog 16 #[.pointer (some ⟨p, 0, none⟩)] w fun v w' => ∃ t : Sl, v = .slice t.a t.len t.cap ∧ Sat R (HoldsL t r.L :: LoneAt p r :: Hs) w' := by
  obtain ⟨f, ⟨t, g⟩, hw⟩ := Sat.lone.1 hw
  have b := t.bounds g
  refine (holds_fspec (t.nodK g.rise) (fun k hk => by have := b.2.2.2.2.2.2 k hk; omega) (by omega) (fun e he => by have := b.2.2.2.2.2.1 e he; omega) hw).use ?_
  rintro _ w ⟨s, rfl, hw⟩
  rw [tie_holds t g.rise] at hw
  exact ⟨_, rfl, s, rfl, hw.cons fun _ h => Sat.lone.2 ⟨_, ⟨t, g⟩, h⟩⟩
theorem lone_left (hw : Sat R (LoneAt p r :: Hs) w) : Gets Tryz.prog 29 #[.pointer (some ⟨p, 0, none⟩)] w fun v w' => ∃ t : Sl, v = .slice t.a t.len t.cap ∧ Sat R (Own t 3 (intsI (rleftsF r)) :: LoneAt p r :: Hs) w' := by
  obtain ⟨f, ⟨t, g⟩, hw⟩ := Sat.lone.1 hw
  have b := t.bounds g
  refine (left_fspec (by omega) (by omega) hw).use ?_
  rintro _ w ⟨s, rfl, hw⟩
  rw [tie_left t] at hw
  exact ⟨_, rfl, s, rfl, hw.cons fun _ h => Sat.lone.2 ⟨_, ⟨t, g⟩, h⟩⟩
theorem lone_sold (hw : Sat R (LoneAt p r :: Hs) w) : Gets Tryz.prog 46 #[.pointer (some ⟨p, 0, none⟩)] w fun v w' => ∃ t : Sl, v = .slice t.a t.len t.cap ∧ Sat R (Own t 3 (intsI r.sold) :: LoneAt p r :: Hs) w' := by
  obtain ⟨f, ⟨t, g⟩, hw⟩ := Sat.lone.1 hw
  have b := t.bounds g
  refine (soldC_spec (by omega) hw).use ?_
  rintro _ w ⟨s, rfl, hw⟩
  rw [t.sold] at hw
  exact ⟨_, rfl, s, rfl, hw.cons fun _ h => Sat.lone.2 ⟨_, ⟨t, g⟩, h⟩⟩
theorem lone_labels {o : Int} (hw : Sat R (LoneAt p r :: Hs) w) : Gets Tryz.prog 22 #[.pointer (some ⟨p, 0, none⟩), .int .i64 o] w fun v w' => ∃ t : Sl, v = .slice t.a t.len t.cap ∧ Sat R (Own t 9 ((rlabelsF r o).map Value.string) :: LoneAt p r :: Hs) w' := by
  obtain ⟨f, ⟨t, g⟩, hw⟩ := Sat.lone.1 hw
  have b := t.bounds g
  refine (labels_fspec (by omega) (fun e he => by have := b.2.2.2.2.2.1 e he; omega) hw).use ?_
  rintro _ w ⟨s, rfl, hw⟩
  rw [tie_labels t g.rise] at hw
  exact ⟨_, rfl, s, rfl, hw.cons fun _ h => Sat.lone.2 ⟨_, ⟨t, g⟩, h⟩⟩
theorem lone_number (hw : Sat R (LoneAt p r :: Hs) w) : Gets Tryz.prog 49 #[.pointer (some ⟨p, 0, none⟩)] w fun v w' => v = .int .i64 r.num ∧ Sat R (LoneAt p r :: Hs) w' := by
  obtain ⟨f, ⟨t, g⟩, hw⟩ := Sat.lone.1 hw
  refine (fnumber_spec hw).use ?_
  rintro _ w ⟨rfl, hw⟩
  exact ⟨_, rfl, by rw [t.num], Sat.lone.2 ⟨_, ⟨t, g⟩, hw⟩⟩
theorem lone_encode (hw : Sat R (LoneAt p r :: Hs) w) : Gets Tryz.prog 23 #[.pointer (some ⟨p, 0, none⟩)] w fun v w' => ∃ t : Sl, v = .slice t.a t.len t.cap ∧ Sat R (Own t 5 (b8 (rencB r)) :: LoneAt p r :: Hs) w' := by
  obtain ⟨f, ⟨t, g⟩, hw⟩ := Sat.lone.1 hw
  have b := t.bounds g
  refine (encode_fspec (tie_small t g) (t.nodK g.rise) (fun k hk => by have := b.2.2.2.2.2.2 k hk; omega) (fun e he => by have := b.2.2.2.2.2.1 e he; omega) hw).use ?_
  rintro _ w ⟨s, rfl, hw⟩
  rw [tie_enc t g] at hw
  exact ⟨_, rfl, s, rfl, hw.cons fun _ h => Sat.lone.2 ⟨_, ⟨t, g⟩, h⟩⟩
end
theorem rlabels_len {r : RF} (g : Good r) (o : Int) : (rlabelsF r o).length ≤ 1000 := by
  unfold rlabelsF
  split
  · simp
  · rename_i h hg
    unfold labsF
    rw [List.length_map]
    exact g.hseats h ((getO_iff g.rise.ne).1 hg).1
theorem u8s : Tryz.prog.underlying 22 = some (.slice 5) := Tryz.underlying22

/-! ### alike -/
set_option maxHeartbeats 1000000 in
theorem alike_spec {p q : Nat} {r : RF} (hw : Sat R (PairAt p q r :: Hs) w) :
    Gets Tryz.prog 12 #[.pointer (some ⟨p, 0, none⟩), .pointer (some ⟨q, 0, none⟩)] w fun v w' => v = .bool true ∧ Sat R (PairAt p q r :: Hs) w' := by
  obtain ⟨g, hw⟩ := PairAt.open hw
  apply call12
  suffices H : ∀ K : Value → World → Prop, (∀ w', Sat R (PairAt p q r :: Hs) w' → K (.bool true) w') → B12 (some ⟨p, 0, none⟩) (some ⟨q, 0, none⟩) K w from H _ fun w' h => ⟨rfl, h⟩
  intro K hK
  have hL := g.hL
  have hlm := g.hlims
  have hgr := g.hgrps
  obtain ⟨sg, sl, s, ts, R1, e1, h, hw, back, hl⟩ := Sat.rfO hw.swap
  refine drw_rule' (Sat R1 [pts q (rCells r sg sl s), VC.tru]) hw (fun w hw => hw.restTru2) fun w hw => ?_
  refine NilP.mk rfl ⟨s, At.own selfS (by exact ⟨rfl, trivial⟩), ?_⟩
  refine (lone_holds hw.swap).use ?_
  clear hw
  rintro _ w ⟨t1, rfl, hw⟩
  refine ⟨t1, rfl, (hw.take (pts q (rCells r sg sl s))).restTru2, ?_⟩
  obtain ⟨R2, ts1, e2, h1, hw⟩ := HoldsL.leak hw
  refine (sameH_spec h1 (h.ext e2).hs hL (fun x hx => by have := g.hseats x hx; omega) (fun x hx => by have := g.hseats x hx; omega) hw).use ?_
  clear hw
  rintro _ w ⟨rfl, hw⟩
  rw [decide_eq_true rfl]
  have hw := back _ _ (e2.back hw).swap
  have hw : Sat R (RFAt q r :: LoneAt p r :: Hs) w := Sat.rf.2 ⟨sg, sl, s, ts, hl, hw⟩
  refine ⟨_, rfl, ?_⟩
  refine (lone_left hw.swap).use ?_
  clear hw
  rintro _ w ⟨t2, rfl, hw⟩
  refine ⟨t2, rfl, ?_⟩
  refine (rleft_fspec hL hlm g.hcls (hw.take (RFAt q r))).use ?_
  clear hw
  rintro _ w ⟨t3, rfl, hw⟩
  refine ⟨t3, rfl, ?_⟩
  have hll : (rleftsF r).length ≤ 1000 := by unfold rleftsF; rw [List.length_map, List.length_range]; exact hlm
  obtain ⟨R3, h3, k3, hw, b3⟩ := Own.lendI hw (by omega)
  obtain ⟨R4, h4, k4, hw, b4⟩ := Own.lendI (hw.take (Own t2 3 (intsI (rleftsF r)))) (by omega)
  refine (sameI_spec h4 (k4 _ _ h3) hw).use ?_
  clear hw
  rintro _ w ⟨rfl, hw⟩
  rw [decide_eq_true rfl]
  have hw := (b3 (b4 hw)).drop.drop
  refine ⟨_, rfl, ?_⟩
  refine (lone_sold hw.swap).use ?_
  clear hw
  rintro _ w ⟨t5, rfl, hw⟩
  refine ⟨t5, rfl, ?_⟩
  obtain ⟨sg, sl, s, ts, R5, e5, h5, hw, back5, hl⟩ := Sat.rfO (hw.take (RFAt q r))
  refine (rsold_spec h5 hL hlm g.hcls hw).use ?_
  clear hw
  rintro _ w ⟨t6, rfl, hw⟩
  refine ⟨t6, rfl, ?_⟩
  have hsl : r.sold.length ≤ 1000 := by show (soldL _ _).length ≤ _; rw [soldL_len]; exact hlm
  obtain ⟨R6, h6, k6, hw, b6⟩ := Own.lendI hw (by omega)
  obtain ⟨R7, h7, k7, hw, b7⟩ := Own.lendI (hw.take (Own t5 3 (intsI r.sold))) (by omega)
  refine (sameI_spec h7 (k7 _ _ h6) hw).use ?_
  clear hw
  rintro _ w ⟨rfl, hw⟩
  rw [decide_eq_true rfl]
  have hw := (b6 (b7 hw)).drop.drop
  have hw : Sat R (RFAt q r :: LoneAt p r :: Hs) w := Sat.rf.2 ⟨sg, sl, s, ts, hl, back5 _ _ hw⟩
  refine ⟨_, rfl, ?_⟩
  refine ⟨fun i w => ∃ j : Nat, i = j ∧ j ≤ 8 ∧ Sat R (LoneAt p r :: RFAt q r :: Hs) w, fun i _ => 8 - i.toNat, ⟨0, rfl, by omega, hw.swap⟩, ?_⟩
  clear hw
  rintro _ _ w ⟨j, rfl, hj, hw⟩
  refine Br.d (fun hd => ?_) (fun hd => ?_)
  · refine (lone_labels hw).use ?_
    clear hw
    rintro _ w ⟨ta, rfl, hw⟩
    refine ⟨ta, rfl, ?_⟩
    refine (rlabels_fspec hL hgr g.hseats (hw.take (RFAt q r))).use ?_
    clear hw
    rintro _ w ⟨tb, rfl, hw⟩
    refine ⟨tb, rfl, ?_⟩
    have hlb := rlabels_len g j
    obtain ⟨R8, e8, h8, hw⟩ := Own.leak hw
    obtain ⟨R9, e9, h9, hw⟩ := Own.leak (hw.take (Own ta 9 ((rlabelsF r j).map Value.string)))
    refine (sameT_spec (s := ta) (t := tb) (a := rlabelsF r j) (b := rlabelsF r j) (h9.ro (by rw [List.length_map]; omega)) ((e9.slR h8).ro (by rw [List.length_map]; omega)) hw).use ?_
    clear hw
    rintro _ w ⟨rfl, hw⟩
    refine ⟨_, rfl, Br.f (by simp) ?_⟩
    rw [wrap64 (by omega) (by omega)]
    exact ⟨⟨j + 1, by omega, by omega, (e8.back (e9.back hw)).swap⟩, by dsimp only; omega⟩
  · refine (lone_encode hw).use ?_
    clear hw
    rintro _ w ⟨ta, rfl, hw⟩
    refine ⟨ta, rfl, ?_⟩
    obtain ⟨bd, bl⟩ := renc_bd g
    obtain ⟨R8, e8, h8, hw⟩ := Own.leak hw
    have hA : Ro R8 ta (b8 (rencB r)) := h8.ro (by rw [List.length_map]; omega)
    have hw : Sat R8 (RFAt q r :: LoneAt p r :: Hs) w := hw.swap
    refine drw_rule' (Sat R8 [RFAt q r, VC.tru]) hw (fun w hw => hw.restTru2) fun w hw => Br.t rfl (Br.t rfl (Br.t rfl ?_))
    refine NilP.mk rfl ⟨r.num, fun w' hs i v hv => ?_, ?_⟩
    · obtain ⟨sg, sl, s, ts, hl, hs⟩ := Sat.rf.1 hs
      have hs := hs.take (pts q (rCells r sg sl s))
      exact (by rw [add_off]; exact At.own (eqS hs) (by exact ⟨rfl, trivial⟩) : At (fun w'' => w'' = w') (Addr.add ⟨q, 0, none⟩ 0) [.int .i64 r.num]) w' rfl i v hv
    refine (lone_number hw.swap).use ?_
    clear hw
    rintro _ w ⟨rfl, hw⟩
    refine ⟨_, rfl, hw.swap.restTru2, Br.t (by simp) ?_⟩
    refine ⟨VC.strOf (rencB r), fun w' hs => convS_ro u8s Tryz.underlying5 Tryz.underlying9 hs hA, ?_⟩
    refine (rencode_fspec (good_small g) hw.swap).use ?_
    clear hw
    rintro _ w ⟨tb, rfl, hw⟩
    refine ⟨tb, rfl, hw.drop.restTru2, ?_⟩
    obtain ⟨R9, e9, h9, hw⟩ := Own.leak hw
    have hB : Ro R9 tb (b8 (rencB r)) := h9.ro (by rw [List.length_map]; omega)
    refine ⟨VC.strOf (rencB r), fun w' e => by rw [show w' = w from e]; exact convS_ro u8s Tryz.underlying5 Tryz.underlying9 hw hB, ?_⟩
    rw [str_eql, decide_eq_true rfl]
    exact hK _ (PairAt.close (e8.back (e9.back hw)).swap)

/-! ### How the laws begin -/
abbrev setC (b : Nat) (num rows : Int) (sg sp : Sl) : HP := pts b (.cells [.int .i64 num, .int .i64 rows, .slice sg.a sg.len sg.cap, .slice sp.a sp.len sp.cap].toArray 38 (0, 0))
theorem begin_spec {bx : Nat} {num rows : Int} {sg sp l : Sl} {grps : List Int} {parts : List Nat} {K : Value → World → Prop} {C : Option Addr → Option Addr → World → Prop} (hg : RoI R sg grps) (hp : SlR R.m sp (flts parts)) (hw : Sat R (setC bx num rows sg sp :: Hs) w)
    (hK : ∀ w, Sat R Hs w → K (.bool true) w) (hC : ∀ p q r w, Sat R (PairAt p q r :: Hs) w → C (some ⟨p, 0, none⟩) (some ⟨q, 0, none⟩) w) :
  Calls Tryz.prog 9 #[] w fun e w_2 =>
  ∃ t13 : Bool, (e = .returned (.bool t13)) ∧
  ∃ t14 : Int, ∃ t14_1 : Int, ∃ t14_2 : Sl, ∃ t14_3 : Sl, (At (fun w' => w' = w_2) ⟨bx, 0, none⟩ [.int .i64 t14, .int .i64 t14_1, .slice t14_2.a t14_2.len t14_2.cap, .slice t14_3.a t14_3.len t14_3.cap]) ∧
  Calls Tryz.prog 13 #[.agg #[.int .i64 t14, .int .i64 t14_1, .slice t14_2.a t14_2.len t14_2.cap, .slice t14_3.a t14_3.len t14_3.cap], .slice l.a l.len l.cap] w_2 fun e_1 w_3 =>
  ∃ t16 : Bool, (e_1 = .returned (.bool t16)) ∧
  ∃ (J : World → Prop), (Br (!t13)
     (K (.bool t13) w_3)
     (Br (!t16)
       (K (.bool t13) w_3)
       (J  w_3))) ∧
  ∀ (z : Env)  (w_4 : World), J  w_4 →
  ∃ t25 : Int, ∃ t25_1 : Int, ∃ t25_2 : Sl, ∃ t25_3 : Sl, (At (fun w' => w' = w_4) ⟨bx, 0, none⟩ [.int .i64 t25, .int .i64 t25_1, .slice t25_2.a t25_2.len t25_2.cap, .slice t25_3.a t25_3.len t25_3.cap]) ∧
  Calls Tryz.prog 14 #[.agg #[.int .i64 t25, .int .i64 t25_1, .slice t25_2.a t25_2.len t25_2.cap, .slice t25_3.a t25_3.len t25_3.cap]] w_4 fun e_2 w_5 =>
  ∃ t26 : Option Addr, ∃ t26_1 : Option Addr, ∃ t26_2 : Bool, (e_2 = .returned (.tuple #[.pointer t26, .pointer t26_1, .bool t26_2])) ∧
  ∃ (J_1 : World → Prop), (Br (!t26_2)
     (K (.bool t26_2) w_5)
     (Br t26.isNone
       (K (.bool t26_2) w_5)
       (J_1  w_5))) ∧
  ∀ (z_1 : Env)  (w_6 : World), J_1  w_6 → C t26 t26_1 w_6 := by
  refine (awake_spec hw).use ?_
  clear hw
  rintro _ w ⟨rfl, hw⟩
  refine ⟨_, rfl, num, rows, sg, sp, At.own (eqS hw) (by exact ⟨rfl, rfl, rfl, rfl, trivial⟩), ?_⟩
  refine (few_spec (l := l) hw).use ?_
  clear hw
  rintro _ w ⟨rfl, hw⟩
  refine ⟨_, rfl, fun w => Sat R (setC bx num rows sg sp :: Hs) w, Br.f rfl (Br.nd (fun _ => hK _ hw.drop) (fun _ => hw)), ?_⟩
  clear hw
  rintro _ w hw
  refine ⟨num, rows, sg, sp, At.own (eqS hw) (by exact ⟨rfl, rfl, rfl, rfl, trivial⟩), ?_⟩
  refine (fresh_spec hg hp hw).use ?_
  clear hw
  rintro _ w (⟨_, rfl, hw⟩ | ⟨_, p, q, rfl, hw⟩)
  · exact ⟨_, _, _, rfl, fun _ => False, Br.f rfl (Br.t rfl (hK _ hw.drop)), fun _ _ h => absurd h id⟩
  · refine ⟨_, _, _, rfl, fun w => Sat R (PairAt p q (rnewF num rows grps (limitsT (layN rows grps) parts).1) :: setC bx num rows sg sp :: Hs) w, Br.f rfl (Br.f rfl hw), ?_⟩
    rintro _ w hw
    exact hC p q _ w (hw.cons fun _ h => h.drop)

/-- A step of the list. -/
theorem step_row {l : Sl} {ss : List StepL} {S : World → Prop} {k : Nat} (hr : RoN 5 R l (ss.map stepV)) (hS : ∀ w, S w → Sat R Hs w) (hk : k < ss.length) {F : Addr → Prop}
    (f : ∀ a : Addr, Elt 5 S a k (stepV ss[k]) → F a) : Rng (k : Int) l.len (NilP l.a F) :=
  (hr.reads hS).rngM hk fun a _ he => f a he
theorem steps_len {l : Sl} {ss : List StepL} (hr : RoN 5 R l (ss.map stepV)) : l.len = ss.length := by have := hr.len; rwa [List.length_map] at this

/-- The steps are done, one behind the other. -/
theorem steps_spec {p q : Nat} {r : RF} {l : Sl} {ss : List StepL} {C : World → Prop} (hr : RoN 5 R l (ss.map stepV)) (hsz : ∀ s ∈ ss, s.label.size ≤ 9223372036854775807) (hw : Sat R (PairAt p q r :: Hs) w)
    (hC : ∀ r' w, Sat R (PairAt p q r' :: Hs) w → C w) :
  ∃ (J_2 : World → Prop), (∃ (I : Int → World → Prop) (μ : Int → World → Nat), (I 0 w) ∧ ∀ (z_2 : Env) (i12 : Int) (w_7 : World), I i12 w_7 →
    Br (decide (i12 < (↑l.len : Int)))
     (Br (decide (i12 < 60))
       (Rng i12 l.len (NilP l.a fun a_t58 =>
        ∃ t59 : Int, ∃ t59_1 : Int, ∃ t59_2 : Int, ∃ t59_3 : Int, ∃ t59_4 : ByteArray, (At (fun w' => w' = w_7) (Addr.add a_t58 (mulS i12.toNat 5)) [.int .i64 t59, .int .i64 t59_1, .int .i64 t59_2, .int .i64 t59_3, .string t59_4]) ∧
        Calls Tryz.prog 15 #[.pointer (some ⟨p, 0, none⟩), .pointer (some ⟨q, 0, none⟩), .agg #[.int .i64 t59, .int .i64 t59_1, .int .i64 t59_2, .int .i64 t59_3, .string t59_4]] w_7 fun e_3 w_8 =>
        ∃ t60 : Bool, (e_3 = .returned (.bool t60)) ∧
        (I (IntKind.i64.wrap (i12 + 1)) w_8) ∧ μ (IntKind.i64.wrap (i12 + 1)) w_8 < μ i12 w_7))
       (J_2  w_7))
     (J_2  w_7)) ∧
  ∀ (z_3 : Env)  (w_9 : World), J_2  w_9 → C w_9 := by
  have hll := steps_len hr
  refine ⟨fun w => ∃ r', Sat R (PairAt p q r' :: Hs) w, ⟨fun i w => ∃ j : Nat, i = j ∧ j ≤ 60 ∧ ∃ r', Sat R (PairAt p q r' :: Hs) w, fun i _ => 60 - i.toNat, ⟨0, rfl, by omega, r, hw⟩, ?_⟩, fun _ w ⟨r', hw⟩ => hC r' w hw⟩
  clear hw
  rintro _ _ w ⟨j, rfl, hj, r', hw⟩
  refine Br.d (fun h1 => Br.d (fun h2 => ?_) (fun h2 => ⟨r', hw⟩)) (fun h1 => ⟨r', hw⟩)
  have hj2 : j < ss.length := by omega
  refine step_row hr (eqS hw) hj2 fun a ha => ⟨ss[j].d, ss[j].owner, ss[j].cls, ss[j].many, ss[j].label, ha.z ⟨rfl, rfl, rfl, rfl, rfl, trivial⟩, ?_⟩
  refine (do_spec (s := ss[j]) (hsz _ (List.getElem_mem _)) hw).use ?_
  rintro _ w ⟨rfl, hw⟩
  rw [wrap64 (by omega) (by omega)]
  exact ⟨_, rfl, ⟨j + 1, by omega, by omega, _, hw⟩, by dsimp only; omega⟩

/-! ### FlightScripts -/
theorem scripts_spec {num rows : Int} {sg sp l : Sl} {grps : List Int} {parts : List Nat} {ss : List StepL} (hg : RoI R sg grps) (hp : SlR R.m sp (flts parts)) (hr : RoN 5 R l (ss.map stepV)) (hsz : ∀ s ∈ ss, s.label.size ≤ 9223372036854775807) (hw : Sat R Hs w) :
    Gets Tryz.prog 7 #[.agg #[.int .i64 num, .int .i64 rows, .slice sg.a sg.len sg.cap, .slice sp.a sp.len sp.cap], .slice l.a l.len l.cap] w fun v w' => v = .bool true ∧ Sat R Hs w' := by
  have hll := steps_len hr
  apply call7
  suffices H : ∀ K : Value → World → Prop, (∀ w', Sat R Hs w' → K (.bool true) w') → B7 num rows sg sp l K w from H _ fun w' h => ⟨rfl, h⟩
  intro K hK
  refine new_rule hw fun bx w hw => ?_
  refine begin_spec hg hp hw hK ?_
  clear hw
  intro p q r w hw
  refine ⟨fun i w => ∃ j : Nat, i = j ∧ j ≤ 60 ∧ ∃ r', Sat R (PairAt p q r' :: Hs) w, fun i _ => 60 - i.toNat, ⟨0, rfl, by omega, r, hw⟩, ?_⟩
  clear hw
  rintro _ _ w ⟨j, rfl, hj, r', hw⟩
  refine ⟨fun w => (j < ss.length ∧ j < 60) ∧ Sat R (PairAt p q r' :: Hs) w, Br.d (fun h1 => Br.d (fun h2 => ⟨⟨by omega, by omega⟩, hw⟩) (fun h2 => ?_)) (fun h1 => ?_), ?_⟩
  · refine (alike_spec hw).use ?_
    rintro _ w ⟨rfl, hw⟩
    exact ⟨_, rfl, hK _ hw.drop⟩
  · refine (alike_spec hw).use ?_
    rintro _ w ⟨rfl, hw⟩
    exact ⟨_, rfl, hK _ hw.drop⟩
  clear hw
  rintro _ w ⟨⟨hj2, hj3⟩, hw⟩
  refine step_row hr (eqS hw) hj2 fun a ha => ⟨ss[j].d, ss[j].owner, ss[j].cls, ss[j].many, ss[j].label, ha.z ⟨rfl, rfl, rfl, rfl, rfl, trivial⟩, ?_⟩
  refine (do_spec (s := ss[j]) (hsz _ (List.getElem_mem _)) hw).use ?_
  clear hw
  rintro _ w ⟨rfl, hw⟩
  refine ⟨_, rfl, ?_⟩
  refine (alike_spec hw).use ?_
  clear hw
  rintro _ w ⟨rfl, hw⟩
  rw [wrap64 (by omega) (by omega)]
  exact ⟨_, rfl, Br.f rfl (Br.f rfl ⟨⟨j + 1, by omega, by omega, _, hw⟩, by dsimp only; omega⟩)⟩

/-! ### FlightDecodes -/
theorem decodes_spec {s : Sl} {bs : List Int} (hb : ∀ y ∈ bs, 0 ≤ y ∧ y < 256) (hs : SlR R.m s (b8 bs)) (hl : bs.length ≤ 9223372036854775807) (hw : Sat R Hs w) :
    Gets Tryz.prog 3 #[.slice s.a s.len s.cap] w fun v w' => v = .bool true ∧ Sat R Hs w' := by
  have hsl : s.len = bs.length := by have := hs.len; simpa using this
  apply call3
  refine (awake_spec hw).use ?_
  clear hw
  rintro _ w ⟨rfl, hw⟩
  refine ⟨_, rfl, Br.d (fun h1 => ⟨rfl, hw⟩) (fun h1 => ?_)⟩
  refine (decode_fspec hb (hs.ro (by rw [List.length_map]; omega)) (by omega) hw).use ?_
  clear hw
  rintro _ w (⟨hd, rfl, hw⟩ | ⟨f, p, hd, rfl, hw⟩)
  · refine ⟨_, _, rfl, ?_⟩
    refine (rdecode_fspec hb hs (by omega) hw).use ?_
    clear hw
    rintro _ w (⟨hn, rfl, hw⟩ | ⟨h3, h4, _⟩)
    · exact ⟨_, _, rfl, Br.f rfl (Br.f rfl (Br.f rfl (Br.t rfl ⟨rfl, hw⟩)))⟩
    · rcases dec_tie hb with ⟨_, h5⟩ | ⟨f', h5, _⟩
      · exact absurd ⟨h3, h4⟩ h5
      · rw [hd] at h5; cases h5
  · refine ⟨_, _, rfl, ?_⟩
    refine (rdecode_fspec hb hs (by omega) hw).use ?_
    clear hw
    rcases dec_tie hb with ⟨h5, _⟩ | ⟨f', h5, h6, h7, t, g⟩
    · rw [hd] at h5; cases h5
    rw [hd] at h5
    cases h5
    rintro _ w (⟨hn, _⟩ | ⟨_, _, q, rfl, hw⟩)
    · exact absurd ⟨h6, h7⟩ hn
    · refine ⟨_, _, rfl, Br.f rfl (Br.f rfl (Br.f rfl (Br.f rfl ?_)))⟩
      refine (alike_spec (Sat.pair.2 ⟨f, ⟨t, g⟩, hw.swap⟩)).use ?_
      clear hw
      rintro _ w ⟨rfl, hw⟩
      exact ⟨_, rfl, rfl, hw.drop⟩
end Go.Proofs.YtaacfjdknlglhaaGreatDoor
/- ROW: from a reading of an argument to what the contracts ask; from a walk's end to 'Below'. No condition. -/
namespace Go.VC
set_option linter.unusedVariables false
open Go.ChangeShapes Go.WideShapes Go.ChangeAt Go.RowKit

theorem below_of {W W' : World} {Hs : List HP} (h : Sat (Cx.of W) Hs W') : Below W.heap.size W W' := by
  obtain ⟨h1, h2, h3⟩ := h.streams
  have hb : ∀ k, k < W.heap.size → W'.heap[k]? = W.heap[k]? := fun k hk => by
    have : (Cx.of W).m k = some W.heap[k] := by simp [Cx.of, hk]
    rw [h.of_ro this]; simp [hk]
  refine ⟨h1, h2, h3, ?_, hb⟩
  rcases Nat.lt_or_ge W'.heap.size W.heap.size with hl | hl
  · have := hb W'.heap.size hl
    rw [Array.getElem?_eq_none (Nat.le_refl _)] at this
    simp [hl] at this
  · exact hl

theorem block_of_cell {w : World} {a : Addr} {v : Value} (h : w.cell? a = some v) : a.spot = none ∧ ∃ l T fr, w.heap[a.block]? = some (.cells l T fr) ∧ l[a.off]? = some v := by
  unfold World.cell? at h
  split at h
  · rename_i c T fr hb
    split at h
    · cases h
    · rename_i hs
      exact ⟨by simpa using hs, c, T, fr, hb, h⟩
  · cases h

/-- A slice of one-cell elements that was read: told by the cells that hold them. -/
theorem ro_of_cells {W : World} {a : Addr} {n c : Nat} {xs : List Value} (hn : n = xs.length) (hb : xs.length ≤ 9223372036854775807)
    (hc : ∀ i (h : i < xs.length), W.cell? (a.add i) = some xs[i]) : Ro (Cx.of W) ⟨some a, n, c⟩ xs := by
  refine ⟨hn, hb, fun hne => ?_⟩
  have h0 : 0 < xs.length := List.length_pos_iff.2 hne
  have hc0 := hc 0 h0
  simp only [Addr.add, if_true] at hc0
  obtain ⟨hs, l, T, fr, hl, _⟩ := block_of_cell hc0
  refine ⟨a.block, a.off, l, T, fr, ?_, hl, fun i v hv => ?_⟩
  · cases a; simp_all
  · obtain ⟨hi, rfl⟩ := List.getElem?_eq_some_iff.1 hv
    obtain ⟨_, l', T', fr', hl', hx⟩ := block_of_cell (hc i hi)
    have e1 : (a.add i).block = a.block := by unfold Addr.add; split <;> rfl
    have e2 : (a.add i).off = a.off + i := by unfold Addr.add; split <;> simp_all
    rw [e1, hl] at hl'
    cases hl'
    rw [e2] at hx
    exact hx

section
variable {H : Type} {enc : TypeId × Value → H} {P : Program} {W : World} {base : Nat} {spare : Nat → Bool} {held : Bool}

theorem ro_nil {W : World} {c : Nat} : Ro (Cx.of W) ⟨none, 0, c⟩ [] := ⟨rfl, by simp, fun h => absurd rfl h⟩

/-- A slice of ints (64 bits) that came in. -/
theorem roI_of_trod {t e : TypeId} {fuel : Nat} {a : Option Addr} {n c : Nat} {x : DataW H × List MemPlace} (ht : P.underlying t = some (.slice e)) (he : P.underlying e = some (.int .i64)) (hc : P.cellsOf e = 1)
    (h : DataW.trod enc P W base spare held fuel t [.slice a n c] = some x) : ∃ xs, RoI (Cx.of W) ⟨a, n, c⟩ xs ∧ ∀ z ∈ xs, -9223372036854775808 ≤ z ∧ z < 9223372036854775808 := by
  rcases open_ints ht he hc h with ⟨hcs, _⟩ | ⟨x, l, cp, zs, hcs, _, hl, hm, hz, _, hcell, hwz⟩
  · simp at hcs
    obtain ⟨rfl, rfl, rfl⟩ := hcs
    exact ⟨[], ro_nil, fun z hz => by cases hz⟩
  · simp at hcs
    obtain ⟨rfl, rfl, rfl⟩ := hcs
    have hlz : n ≤ zs.length := by rw [hz]; split <;> omega
    refine ⟨zs.take n, ro_of_cells (by simp; omega) ?_ ?_, fun z hz => ?_⟩
    · unfold maxLen at hm; simp; omega
    · intro i hi
      simp at hi
      rw [hcell i (by omega)]
      have : i < zs.length := by omega
      simp [this]
    · have := hwz z (List.mem_of_mem_take hz)
      simp only [Lit.wf] at this
      simp [IntKind.min, IntKind.max, IntKind.bits, IntKind.signed] at this
      omega

end
end Go.VC
/- ROW, part 2: arguments that came in, by their types: what the contracts ask. No condition. -/
namespace Go.VC
set_option linter.unusedVariables false
open Go.ChangeShapes Go.WideShapes Go.ChangeAt Go.RowKit

section
variable {H : Type} {enc : TypeId × Value → H} {P : Program} {W : World} {r : Reach} {b0 : Nat} {t e : TypeId} {v : Value} {d : DataW H} {p : List MemPlace} {n : Nat}

theorem okWide_array (ht : P.underlying t = some (.array n e)) (h : Value.okWide P W r b0 t v) : ∃ cs, v = .agg cs ∧ cs.size = P.cellsOf t := by
  simp only [Value.okWide, ht] at h
  obtain ⟨cs, h1, h2, _⟩ := h
  exact ⟨cs, h1, h2⟩

/-- An array of one-cell elements. -/
theorem arr_in (ht : P.underlying t = some (.array n e)) (hc : P.cellsOf e = 1) (hC : P.cellsOf t = n) (hv : Value.okWide P W r b0 t v) (h : DataW.Trod enc P W 0 (fun _ => true) true t v d p) :
    ∃ cs : List Value, v = .agg cs.toArray ∧ cs.length = n ∧ ∀ c ∈ cs, ∃ m y, DataW.trod enc P W 0 (fun _ => true) true m e [c] = some y := by
  obtain ⟨cs, rfl, hsz⟩ := okWide_array ht hv
  obtain ⟨fuel, hf⟩ := h
  obtain ⟨xs, m, _, _, hl, hx, hi⟩ := DataW.trod_array ht hf
  refine ⟨cs.toList, by simp, by simpa [hC] using hsz, fun c hcm => ?_⟩
  obtain ⟨i, hlt, rfl⟩ := List.getElem_of_mem hcm
  have hin : i < n := by rw [← hC, ← hsz]; simpa using hlt
  have h2 := hi i hin
  rw [hc, Nat.mul_one] at h2
  have e1 : ((Value.agg cs).cells.toList.drop i).take 1 = [cs.toList[i]] := by
    show (cs.toList.drop i).take 1 = _
    rw [List.drop_eq_getElem_cons hlt]; rfl
  rw [e1] at h2
  have : i < xs.length := by omega
  exact ⟨m, xs[i], by rw [h2]; simp [this]⟩

/-- An array of integers. -/
theorem arrI_in {k : IntKind} (ht : P.underlying t = some (.array n e)) (he : P.underlying e = some (.int k)) (hc : P.cellsOf e = 1) (hC : P.cellsOf t = n) (hv : Value.okWide P W r b0 t v) (h : DataW.Trod enc P W 0 (fun _ => true) true t v d p) :
    ∃ A : List Int, A.length = n ∧ v = .agg (A.map (Value.int k)).toArray ∧ ∀ z ∈ A, (Lit.int k z).wf = true := by
  obtain ⟨cs, rfl, hl, hcs⟩ := arr_in ht hc hC hv h
  have : ∀ l : List Value, (∀ c ∈ l, ∃ m y, DataW.trod enc P W 0 (fun _ => true) true m e [c] = some y) → ∃ A : List Int, l = A.map (Value.int k) ∧ ∀ z ∈ A, (Lit.int k z).wf = true := by
    intro l
    induction l with
    | nil => exact fun _ => ⟨[], rfl, by simp⟩
    | cons c l ih =>
      intro hl
      obtain ⟨A, rfl, hA⟩ := ih fun c hc => hl c (List.mem_cons_of_mem _ hc)
      obtain ⟨m, y, hy⟩ := hl c List.mem_cons_self
      obtain ⟨z, hz, _, hw⟩ := DataW.trod_int he hy
      simp only [List.cons.injEq, and_true] at hz
      subst hz
      refine ⟨z :: A, rfl, fun z' hz' => ?_⟩
      rcases List.mem_cons.1 hz' with rfl | hz'
      · exact hw
      · exact hA z' hz'
  obtain ⟨A, rfl, hA⟩ := this cs hcs
  exact ⟨A, by simpa using hl, rfl, hA⟩

/-- A slice of ints. -/
theorem ints_in (ht : P.underlying t = some (.slice e)) (he : P.underlying e = some (.int .i64)) (hc : P.cellsOf e = 1) (hv : Value.okWide P W r b0 t v) (h : DataW.Trod enc P W 0 (fun _ => true) true t v d p) :
    ∃ s xs, v = .slice s.a s.len s.cap ∧ RoI (Cx.of W) s xs ∧ ∀ z ∈ xs, -9223372036854775808 ≤ z ∧ z < 9223372036854775808 := by
  obtain ⟨a, l, c, rfl⟩ := okWide_slice ht hv
  obtain ⟨fuel, hf⟩ := h
  obtain ⟨xs, hx, hb⟩ := roI_of_trod ht he hc (by simpa [Value.cells] using hf)
  exact ⟨⟨a, l, c⟩, xs, rfl, hx, hb⟩

/-- A struct of two slices of ints. -/
theorem two_in {f0 f1 : Field} {e0 e1 : TypeId} (hs : P.underlying t = some (.struct #[f0, f1])) (hone : Deep.oneCellFields P #[f0, f1] = true) (hC : P.cellsOf t = 2)
    (ht0 : P.underlying f0.type = some (.slice e0)) (he0 : P.underlying e0 = some (.int .i64)) (hc0 : P.cellsOf e0 = 1)
    (ht1 : P.underlying f1.type = some (.slice e1)) (he1 : P.underlying e1 = some (.int .i64)) (hc1 : P.cellsOf e1 = 1)
    (hv : Value.okWide P W r b0 t v) (h : DataW.Trod enc P W 0 (fun _ => true) true t v d p) :
    ∃ s t xs ys, v = .agg #[.slice s.a s.len s.cap, .slice t.a t.len t.cap] ∧ RoI (Cx.of W) s xs ∧ RoI (Cx.of W) t ys ∧ (∀ z ∈ xs, -9223372036854775808 ≤ z ∧ z < 9223372036854775808) ∧ (∀ z ∈ ys, -9223372036854775808 ≤ z ∧ z < 9223372036854775808) := by
  obtain ⟨v0, v1, y0, y1, n, rfl, _, _, h0, h1⟩ := Joins.open_agg2 hs hone hC hv h
  obtain ⟨a0, l0, c0, e0⟩ := Joins.slice_form ht0 h0
  obtain ⟨a1, l1, c1, e1⟩ := Joins.slice_form ht1 h1
  simp only [List.cons.injEq, and_true] at e0 e1
  subst e0 e1
  obtain ⟨xs, hx, hbx⟩ := roI_of_trod ht0 he0 hc0 h0
  obtain ⟨ys, hy, hby⟩ := roI_of_trod ht1 he1 hc1 h1
  exact ⟨⟨a0, l0, c0⟩, ⟨a1, l1, c1⟩, xs, ys, rfl, hx, hy, hbx, hby⟩

/-- An array of two slices of ints. -/
theorem arr2S_in {e' : TypeId} (ht : P.underlying t = some (.array 2 e)) (he : P.underlying e = some (.slice e')) (he' : P.underlying e' = some (.int .i64)) (hc' : P.cellsOf e' = 1) (hc : P.cellsOf e = 1) (hC : P.cellsOf t = 2) (hv : Value.okWide P W r b0 t v) (h : DataW.Trod enc P W 0 (fun _ => true) true t v d p) :
    ∃ s t xs ys, v = .agg #[.slice s.a s.len s.cap, .slice t.a t.len t.cap] ∧ RoI (Cx.of W) s xs ∧ RoI (Cx.of W) t ys := by
  obtain ⟨cs, rfl, hl, hcs⟩ := arr_in ht hc hC hv h
  match cs, hl, hcs with
  | [c0, c1], _, hcs =>
    obtain ⟨m0, y0, h0⟩ := hcs c0 (by simp)
    obtain ⟨m1, y1, h1⟩ := hcs c1 (by simp)
    obtain ⟨a0, l0, p0, e0⟩ := Joins.slice_form he h0
    obtain ⟨a1, l1, p1, e1⟩ := Joins.slice_form he h1
    simp only [List.cons.injEq, and_true] at e0 e1
    subst e0 e1
    obtain ⟨xs, hx, _⟩ := roI_of_trod he he' hc' h0
    obtain ⟨ys, hy, _⟩ := roI_of_trod he he' hc' h1
    exact ⟨⟨a0, l0, p0⟩, ⟨a1, l1, p1⟩, xs, ys, rfl, hx, hy⟩

end
end Go.VC
/- ROW, part 3: arguments of any plain type (integers, bools, floats, strings, slices, structs, arrays of such), read as trees. No condition. -/
namespace Go.VC
set_option linter.unusedVariables false
open Go.ChangeShapes Go.WideShapes Go.ChangeAt Go.RowKit

inductive Tr where
  | int (k : IntKind) (n : Int) | bool (b : Bool) | flt (n : Nat) | str (s : ByteArray) | sl (s : Sl) (xs : List Tr) | st (xs : List Tr)

mutual
def Tr.cells : Tr → List Value
  | .int k n => [.int k n]
  | .bool b => [.bool b]
  | .flt n => [.float .f64 n]
  | .str s => [.string s]
  | .sl s _ => [.slice s.a s.len s.cap]
  | .st xs => Tr.cellsL xs
def Tr.cellsL : List Tr → List Value
  | [] => []
  | x :: xs => x.cells ++ Tr.cellsL xs
end

inductive U where
  | int (k : IntKind) | bool | flt | str | sl (u : U) | st (us : List U)

mutual
def U.size : U → Nat
  | .st us => U.sizeL us
  | _ => 1
def U.sizeL : List U → Nat
  | [] => 0
  | u :: us => u.size + U.sizeL us
end

mutual
def Tr.Ok (R : Cx) : U → Tr → Prop
  | .int k, .int k' n => k' = k ∧ (Lit.int k n).wf = true
  | .bool, .bool _ => True
  | .flt, .flt _ => True
  | .str, .str s => s.size ≤ maxLen
  | .sl u, .sl s xs => (RoN u.size R s (xs.map Tr.cells) ∧ s.len ≤ s.cap) ∧ xs.length ≤ maxLen ∧ Tr.OkA R u xs
  | .st us, .st xs => Tr.OkL R us xs
  | _, _ => False
def Tr.OkA (R : Cx) (u : U) : List Tr → Prop
  | [] => True
  | x :: xs => Tr.Ok R u x ∧ Tr.OkA R u xs
def Tr.OkL (R : Cx) : List U → List Tr → Prop
  | [], [] => True
  | u :: us, x :: xs => Tr.Ok R u x ∧ Tr.OkL R us xs
  | _, _ => False
end

theorem Tr.okA {R : Cx} {u : U} : ∀ {xs : List Tr}, Tr.OkA R u xs → ∀ x ∈ xs, Tr.Ok R u x
  | [], _, x, hx => by cases hx
  | y :: ys, h, x, hx => by
    unfold Tr.OkA at h
    rcases List.mem_cons.1 hx with rfl | hx
    · exact h.1
    · exact Tr.okA h.2 x hx
theorem Tr.okA_mk {R : Cx} {u : U} : ∀ {xs : List Tr}, (∀ x ∈ xs, Tr.Ok R u x) → Tr.OkA R u xs
  | [], _ => by unfold Tr.OkA; trivial
  | y :: ys, h => by
    unfold Tr.OkA
    exact ⟨h y List.mem_cons_self, Tr.okA_mk fun x hx => h x (List.mem_cons_of_mem _ hx)⟩

/-- The shape of a type. -/
def fieldsU (P : Program) (f : TypeId → Option U) : Nat → List Field → Option (List U)
  | _, [] => some []
  | off, x :: xs => match Nat.beq x.offset off with
    | false => none
    | true => match f x.type with
      | none => none
      | some u => match Nat.beq (P.cellsOf x.type) u.size with
        | false => none
        | true => match fieldsU P f (off + u.size) xs with
          | none => none
          | some us => some (u :: us)
def uOf (P : Program) : Nat → TypeId → Option U
  | 0, _ => none
  | d + 1, t => match P.underlying t with
    | some (.int k) => some (.int k)
    | some .bool => some .bool
    | some (.float .f64) => some .flt
    | some .string => some .str
    | some (.slice e) => match uOf P d e with
      | some u => (match Nat.beq (P.cellsOf e) u.size && Nat.blt 0 u.size with | true => some (.sl u) | false => none)
      | none => none
    | some (.struct fs) => match fieldsU P (uOf P d) 0 fs.toList with
      | some us => (match Nat.beq (P.cellsOf t) (U.sizeL us) with | true => some (.st us) | false => none)
      | none => none
    | some (.array n e) => match uOf P d e with
      | some u => (match Nat.beq (P.cellsOf e) u.size && Nat.beq (P.cellsOf t) (n * u.size) with | true => some (.st (List.replicate n u)) | false => none)
      | none => none
    | _ => none

section
variable {H : Type} {enc : TypeId × Value → H} {P : Program} {W : World} {base : Nat} {spare : Nat → Bool} {held : Bool}

/-- Cells of some tree of shape u. -/
def IsTr (R : Cx) (u : U) (cs : List Value) : Prop := ∃ x : Tr, x.cells = cs ∧ x.Ok R u

theorem cells?_cell {w : World} {base : Nat} {a : Addr} {n : Nat} {cs : List Value} (h : w.cells? base a n = some cs) : cs.length = n ∧ ∀ i, i < n → w.cell? (a.add i) = cs[i]? := by
  unfold World.cells? at h
  split at h
  · refine ⟨by have := mapM_some_length h; simpa using this, fun i hi => mapM_some_get h i i (by simp [hi])⟩
  · cases h

theorem add_add (a : Addr) (i j : Nat) (hs : a.spot = none) : (a.add i).add j = ⟨a.block, a.off + (i + j), none⟩ := by
  obtain ⟨b, o, s⟩ := a
  simp only at hs
  subst hs
  rw [add_off, add_off, Nat.add_assoc]

theorem fields_read {d : Nat} (ih : ∀ {fuel : Nat} {t : TypeId} {cs : List Value} {y : DataW H × List MemPlace} {u : U}, uOf P d t = some u → DataW.trod enc P W base spare held fuel t cs = some y → IsTr (Cx.of W) u cs) {n : Nat} {cs : List Value} {xs : List (DataW H × List MemPlace)} :
    ∀ (fs : List Field) (off : Nat) (us : List U), fieldsU P (uOf P d) off fs = some us → (∀ (i : Nat) (f : Field), fs[i]? = some f → ∃ y, DataW.trod enc P W base spare held n f.type ((cs.drop f.offset).take (P.cellsOf f.type)) = some y) →
      off + U.sizeL us ≤ cs.length → ∃ ts : List Tr, Tr.cellsL ts = (cs.drop off).take (U.sizeL us) ∧ Tr.OkL (Cx.of W) us ts
  | [], off, us, h, _, _ => by
    simp only [fieldsU, Option.some.injEq] at h
    subst h
    exact ⟨[], by simp [Tr.cellsL, U.sizeL], by unfold Tr.OkL; trivial⟩
  | f :: fs, off, us, h, hf, hl => by
    unfold fieldsU at h
    split at h
    · cases h
    rename_i hoff
    have hoff := Nat.eq_of_beq_eq_true hoff
    split at h
    · cases h
    rename_i u hu
    split at h
    · cases h
    rename_i hc
    have hc := Nat.eq_of_beq_eq_true hc
    split at h
    · cases h
    rename_i us' hus
    cases h
    simp only [U.sizeL] at hl ⊢
    obtain ⟨y, hy⟩ := hf 0 f rfl
    obtain ⟨x, hx, hxo⟩ := ih hu hy
    obtain ⟨ts, hts, htso⟩ := fields_read ih (n := n) (xs := xs) fs (off + u.size) us' hus (fun i g hg => hf (i + 1) g (by simpa using hg)) (by omega)
    refine ⟨x :: ts, ?_, by unfold Tr.OkL; exact ⟨hxo, htso⟩⟩
    simp only [Tr.cellsL]
    rw [hx, hts, hoff, hc, List.take_add, List.drop_drop]

theorem reps_read {u : U} {n s : Nat} : ∀ {m : Nat} {cs : List Value}, cs.length = m * s → u.size = s → (∀ i, i < m → IsTr (Cx.of W) u ((cs.drop (i * s)).take s)) → ∃ ts : List Tr, Tr.cellsL ts = cs ∧ Tr.OkL (Cx.of W) (List.replicate m u) ts
  | 0, cs, hl, _, _ => by
    have : cs = [] := List.length_eq_zero_iff.1 (by simpa using hl)
    subst this
    exact ⟨[], rfl, by unfold Tr.OkL; trivial⟩
  | m + 1, cs, hl, hs, h => by
    obtain ⟨x, hx, hxo⟩ := h 0 (by omega)
    obtain ⟨ts, hts, htso⟩ := reps_read (n := n) (m := m) (cs := cs.drop s) (by rw [List.length_drop, hl, Nat.add_mul]; omega) hs (fun i hi => by
      have := h (i + 1) (by omega)
      rw [Nat.add_mul, Nat.one_mul, Nat.add_comm, ← List.drop_drop] at this
      exact this)
    refine ⟨x :: ts, ?_, by rw [List.replicate_succ]; unfold Tr.OkL; exact ⟨hxo, htso⟩⟩
    simp only [Tr.cellsL]
    rw [hx, hts]
    simp

theorem choose_list {α β : Type} {p : Nat → α → Prop} : ∀ {n : Nat}, (∀ i, i < n → ∃ x : α, p i x) → ∃ xs : List α, xs.length = n ∧ ∀ i (hi : i < xs.length), p i xs[i]
  | 0, _ => ⟨[], rfl, fun i hi => by simp at hi⟩
  | n + 1, h => by
    obtain ⟨xs, hl, hp⟩ := choose_list (β := β) (n := n) fun i hi => h i (by omega)
    obtain ⟨x, hx⟩ := h n (by omega)
    refine ⟨xs ++ [x], by simp [hl], fun i hi => ?_⟩
    by_cases h2 : i < xs.length
    · rw [List.getElem_append_left h2]; exact hp i h2
    · have : i = n := by simp at hi; omega
      subst this
      rw [List.getElem_append_right (by omega)]
      simpa using hx

theorem trod_f64 {fuel : Nat} {t : TypeId} {cs : List Value} {x : DataW H × List MemPlace} (ht : P.underlying t = some (.float .f64)) (h : DataW.trod enc P W base spare held fuel t cs = some x) : ∃ n, cs = [.float .f64 n] := by
  cases fuel with
  | zero => simp [DataW.trod] at h
  | succ n =>
    unfold DataW.trod at h
    rw [ht] at h
    split at h <;> simp_all

theorem tr_read : ∀ {d fuel : Nat} {t : TypeId} {cs : List Value} {y : DataW H × List MemPlace} {u : U}, uOf P d t = some u → DataW.trod enc P W base spare held fuel t cs = some y → IsTr (Cx.of W) u cs
  | 0, _, _, _, _, _, h, _ => by cases h
  | d + 1, fuel, t, cs, y, u, h, hy => by
    unfold uOf at h
    split at h
    · rename_i k ht
      cases h
      obtain ⟨n, rfl, _, hw⟩ := DataW.trod_int ht hy
      exact ⟨.int k n, rfl, rfl, hw⟩
    · rename_i ht
      cases h
      obtain ⟨b, rfl, _⟩ := DataW.trod_bool ht hy
      exact ⟨.bool b, rfl, by unfold Tr.Ok; trivial⟩
    · rename_i ht
      cases h
      obtain ⟨n, rfl⟩ := trod_f64 ht hy
      exact ⟨.flt n, rfl, by unfold Tr.Ok; trivial⟩
    · rename_i ht
      cases h
      obtain ⟨s, rfl, _, hs⟩ := DataW.trod_string ht hy
      exact ⟨.str s, rfl, hs⟩
    · rename_i e ht
      split at h
      case h_2 => cases h
      rename_i ue hue
      split at h
      case h_2 => cases h
      rename_i hc
      simp only [Bool.and_eq_true] at hc
      have hpos : 0 < ue.size := Nat.blt_eq.mp hc.2
      have hc := Nat.eq_of_beq_eq_true hc.1
      cases h
      rcases DataW.trod_slice ht hy with ⟨rfl, _⟩ | ⟨a, len, cap, elems, rest, n, _, rfl, _, _, hlc, hcm, hel, helem, _, _⟩
      · refine ⟨.sl ⟨none, 0, 0⟩ [], rfl, ?_⟩
        unfold Tr.Ok
        exact ⟨⟨⟨Wid.nil, rfl, fun h => absurd rfl h⟩, Nat.le_refl _⟩, Nat.zero_le _, by unfold Tr.OkA; trivial⟩
      · obtain ⟨xs, hxl, hxs⟩ := choose_list (β := Unit) (p := fun i (x : Tr) => W.cells? base (a.add (i * P.cellsOf e)) (P.cellsOf e) = some x.cells ∧ x.Ok (Cx.of W) ue) (n := len) fun i hi => by
          have h1 := helem i hi
          rw [List.getElem?_eq_getElem (by omega)] at h1
          obtain ⟨ce, hce, hte⟩ := Option.bind_eq_some_iff.1 h1
          obtain ⟨x, rfl, hx⟩ := tr_read hue hte
          exact ⟨x, hce, hx⟩
        refine ⟨.sl ⟨some a, len, cap⟩ xs, rfl, ?_⟩
        unfold Tr.Ok
        have hwid : Wid ue.size (xs.map Tr.cells) := fun r hr => by
          obtain ⟨x, hx, rfl⟩ := List.mem_map.1 hr
          obtain ⟨i, hi, rfl⟩ := List.getElem_of_mem hx
          have := (cells?_cell (hxs i hi).1).1
          rw [this, hc]
        refine ⟨⟨⟨hwid, by simp [hxl], fun hne => ?_⟩, hlc⟩, by omega, Tr.okA_mk fun x hx => by obtain ⟨i, hi, rfl⟩ := List.getElem_of_mem hx; exact (hxs i hi).2⟩
        -- the block
        have h0 : 0 < xs.length := by
          have : 0 < (xs.map Tr.cells).length := List.length_pos_iff.2 hne
          simpa using this
        have hcell : ∀ i (hi : i < xs.length) j, j < ue.size → W.cell? ((a.add (i * ue.size)).add j) = (xs[i].cells)[j]? := fun i hi j hj => by
          have := (cells?_cell (hxs i hi).1).2 j (by rw [hc]; exact hj)
          rw [hc] at this; exact this
        have hxl0 : ∀ i (hi : i < xs.length), (xs[i].cells).length = ue.size := fun i hi => by rw [(cells?_cell (hxs i hi).1).1, hc]
        have hc0 := hcell 0 h0 0 (by omega)
        rw [List.getElem?_eq_getElem (by rw [hxl0 0 h0]; omega)] at hc0
        have hz0 : (a.add (0 * ue.size)).add 0 = a := by rw [Nat.zero_mul]; simp [Addr.add]
        rw [hz0] at hc0
        obtain ⟨hs, l, T, fr, hl, _⟩ := block_of_cell hc0
        refine ⟨a.block, a.off, l, T, fr, by cases a; simp_all, hl, fun i v hv => ?_⟩
        -- which row, which place
        have hlen := hwid.len
        rw [List.length_map] at hlen
        have hi : i < (xs.map Tr.cells).flatten.length := (List.getElem?_eq_some_iff.1 hv).1
        have hq : i / ue.size < xs.length := by
          rw [hlen] at hi; exact Nat.div_lt_of_lt_mul (by rwa [Nat.mul_comm])
        have hm : i % ue.size < ue.size := Nat.mod_lt _ (by omega)
        have hcc := hcell (i / ue.size) hq (i % ue.size) hm
        rw [add_add a _ _ hs, show i / ue.size * ue.size + i % ue.size = i by rw [Nat.mul_comm]; exact Nat.div_add_mod _ _] at hcc
        have e1 : (xs.map Tr.cells).flatten[i]? = (xs[i / ue.size].cells)[i % ue.size]? := by
          have h1 : i = i / ue.size * ue.size + i % ue.size := by rw [Nat.mul_comm]; exact (Nat.div_add_mod _ _).symm
          conv => lhs; rw [h1]
          rw [← List.getElem?_drop, hwid.drop_flat, List.drop_eq_getElem_cons (by simpa using hq), List.flatten_cons, List.getElem?_append_left (by rw [List.getElem_map, hxl0 _ hq]; exact hm), List.getElem_map]
        rw [← e1, hv] at hcc
        simp only [World.cell?, hl, Option.isSome_none, Bool.false_eq_true, if_false] at hcc
        exact hcc
    · rename_i fs ht
      split at h
      case h_2 => cases h
      rename_i us hus
      split at h
      case h_2 => cases h
      rename_i hc
      have hc := Nat.eq_of_beq_eq_true hc
      cases h
      obtain ⟨xs, n, _, _, hl, hxl, hf⟩ := DataW.trod_struct ht hy
      obtain ⟨ts, hts, hto⟩ := fields_read (d := d) (fun h h2 => tr_read h h2) (n := n) (cs := cs) (xs := xs) fs.toList 0 us hus (fun i f hfi => by
        have hfi2 : fs[i]? = some f := by simpa using hfi
        have hlt : i < xs.length := by rw [hxl]; exact (Array.getElem?_eq_some_iff.1 hfi2).1
        exact ⟨xs[i], by rw [hf i f hfi2]; exact List.getElem?_eq_getElem hlt⟩) (by omega)
      refine ⟨.st ts, ?_, by unfold Tr.Ok; exact hto⟩
      unfold Tr.cells
      rw [hts, List.drop_zero, List.take_of_length_le (by omega)]
    · rename_i m e ht
      split at h
      case h_2 => cases h
      rename_i ue hue
      split at h
      case h_2 => cases h
      rename_i hc
      simp only [Bool.and_eq_true] at hc
      have hc1 := Nat.eq_of_beq_eq_true hc.1
      have hc2 := Nat.eq_of_beq_eq_true hc.2
      cases h
      obtain ⟨xs, n, _, _, hl, hxl, hf⟩ := DataW.trod_array ht hy
      obtain ⟨ts, hts, hto⟩ := reps_read (n := n) (u := ue) (s := ue.size) (m := m) (cs := cs) (by rw [hl, hc2]) rfl (fun i hi => by
        have := hf i hi
        rw [hc1, List.getElem?_eq_getElem (by omega)] at this
        exact tr_read hue this)
      exact ⟨.st ts, by unfold Tr.cells; exact hts, by unfold Tr.Ok; exact hto⟩
    · cases h

/-- An argument. -/
theorem tr_arg {d : Nat} {t : TypeId} {v : Value} {dt : DataW H} {p : List MemPlace} {u : U} (hu : uOf P d t = some u) (h : DataW.Trod enc P W base spare held t v dt p) : IsTr (Cx.of W) u v.cells.toList := by
  obtain ⟨fuel, hf⟩ := h
  exact tr_read hu hf

theorem str_arg {r : Reach} {b0 d : Nat} {t : TypeId} {v : Value} {dt : DataW H} {p : List MemPlace} (ht : P.underlying t = some .string) (hu : uOf P d t = some .str) (hv : Value.okWide P W r b0 t v) (h : DataW.Trod enc P W base spare held t v dt p) :
    ∃ s, v = .string s ∧ s.size ≤ maxLen := by
  obtain ⟨s, rfl⟩ := okWide_string ht hv
  obtain ⟨x, hx, ho⟩ := tr_arg hu h
  cases x <;> simp only [Tr.Ok] at ho
  rename_i s'
  have : s' = s := by simpa [Tr.cells, Value.cells] using hx
  subst this
  exact ⟨_, rfl, ho⟩

/-- A slice, by its elements: each is of g's form. -/
theorem sl_form {α : Type} {R : Cx} {u : U} {s : Sl} {xs : List Tr} (g : α → List Value) (Q : α → Prop) (ho : Tr.Ok R (.sl u) (.sl s xs)) (h : ∀ x : Tr, x.Ok R u → ∃ e : α, x.cells = g e ∧ Q e) :
    ∃ es : List α, RoN u.size R s (es.map g) ∧ es.length ≤ maxLen ∧ ∀ e ∈ es, Q e := by
  unfold Tr.Ok at ho
  obtain ⟨⟨h1, _⟩, h2, h3⟩ := ho
  have key : ∀ l : List Tr, (∀ x ∈ l, x.Ok R u) → ∃ es : List α, l.map Tr.cells = es.map g ∧ es.length = l.length ∧ ∀ e ∈ es, Q e := fun l => by
    induction l with
    | nil => exact fun _ => ⟨[], rfl, rfl, fun _ h => by cases h⟩
    | cons x l ih =>
      intro hl
      obtain ⟨es, h1, h2, h3⟩ := ih fun y hy => hl y (List.mem_cons_of_mem _ hy)
      obtain ⟨e, he, hq⟩ := h x (hl x List.mem_cons_self)
      exact ⟨e :: es, by rw [List.map_cons, List.map_cons, he, h1], by simp [h2], fun y hy => by
        rcases List.mem_cons.1 hy with rfl | hy
        · exact hq
        · exact h3 y hy⟩
  obtain ⟨es, e1, e2, e3⟩ := key xs (Tr.okA h3)
  rw [e1] at h1
  exact ⟨es, h1, by omega, e3⟩

theorem sl_cap {R : Cx} {u : U} {s : Sl} {xs : List Tr} (ho : Tr.Ok R (.sl u) (.sl s xs)) : s.len ≤ s.cap := by
  unfold Tr.Ok at ho
  exact ho.1.2

/-- One-cell elements. -/
theorem RoN.one {R : Cx} {s : Sl} {vs : List Value} (h : RoN 1 R s (vs.map fun v => [v])) (hb : vs.length ≤ maxLen) : Ro R s vs := by
  refine ⟨by have := h.len; simpa using this, by unfold maxLen at hb; omega, fun hne => ?_⟩
  obtain ⟨b, off, l, T, fr, h1, h2, h3⟩ := h.mem (by simpa using hne)
  refine ⟨b, off, l, T, fr, h1, h2, fun i v hv => h3 i v ?_⟩
  have : (vs.map fun v => [v]).flatten = vs := by
    clear h3 h hb hne hv
    induction vs with
    | nil => rfl
    | cons v vs ih => simp [ih]
  rw [this]; exact hv

/-- A slice of integers. -/
theorem ints_form {R : Cx} {k : IntKind} {s : Sl} {xs : List Tr} (ho : Tr.Ok R (.sl (.int k)) (.sl s xs)) : ∃ zs : List Int, Ro R s (zs.map (Value.int k)) ∧ zs.length ≤ maxLen ∧ ∀ z ∈ zs, (Lit.int k z).wf = true := by
  obtain ⟨zs, h1, h2, h3⟩ := sl_form (fun z : Int => [Value.int k z]) (fun z => (Lit.int k z).wf = true) ho fun x hx => by
    cases x <;> simp only [Tr.Ok] at hx
    rename_i k' z
    obtain ⟨rfl, hw⟩ := hx
    exact ⟨z, rfl, hw⟩
  refine ⟨zs, RoN.one ?_ (by simpa using h2), h2, h3⟩
  rw [List.map_map]
  exact h1

/-- A slice of floats. -/
theorem flts_form {R : Cx} {s : Sl} {xs : List Tr} (ho : Tr.Ok R (.sl .flt) (.sl s xs)) : ∃ zs : List Nat, Ro R s (zs.map (Value.float .f64)) ∧ zs.length ≤ maxLen ∧ s.len ≤ s.cap := by
  obtain ⟨zs, h1, h2, h3⟩ := sl_form (fun z : Nat => [Value.float .f64 z]) (fun _ => True) ho fun x hx => by
    cases x <;> simp only [Tr.Ok] at hx
    rename_i z
    exact ⟨z, rfl, trivial⟩
  refine ⟨zs, RoN.one ?_ (by simpa using h2), h2, sl_cap ho⟩
  rw [List.map_map]
  exact h1

end
end Go.VC
/- The arguments of the flight's laws. No condition. -/
namespace Go.Proofs.YtaacfjdknlglhaaGreatDoor
set_option linter.unusedVariables false
open Go Go.VC Go.ChangeShapes Go.WideShapes Go.ChangeAt Go.RowKit

variable {H : Type} {enc : TypeId × Value → H} {W : World} {r : Reach} {b0 : Nat} {v : Value} {d : DataW H} {p : List MemPlace}

set_option maxRecDepth 100000 in
theorem bytesF_in (hv : Value.okWide Tryz.prog W r b0 22 v) (h : DataW.Trod enc Tryz.prog W 0 (fun _ => true) true 22 v d p) :
    ∃ (s : Sl) (bs : List Int), v = .slice s.a s.len s.cap ∧ SlR (Cx.of W).m s (b8 bs) ∧ bs.length ≤ maxLen ∧ ∀ x ∈ bs, 0 ≤ x ∧ x < 256 := by
  obtain ⟨a, n, c, rfl⟩ := okWide_slice Tryz.underlying22 hv
  obtain ⟨x, hx, ho⟩ := tr_arg (d := 6) (u := .sl (.int .u8)) (by kernel_rfl) h
  cases x <;> simp only [Tr.Ok] at ho
  rename_i s xs
  have ho : Tr.Ok (Cx.of W) (.sl (.int .u8)) (.sl s xs) := by unfold Tr.Ok; exact ho
  obtain ⟨bs, h1, h2, h3⟩ := ints_form ho
  have e : [Value.slice s.a s.len s.cap] = [Value.slice a n c] := by simpa [Tr.cells, Value.cells] using hx
  have e := (List.cons.inj e).1
  simp only [Value.slice.injEq] at e
  obtain ⟨rfl, rfl, rfl⟩ := e
  refine ⟨s, bs, rfl, ⟨h1.len, sl_cap ho, h1.mem⟩, h2, fun z hz => ?_⟩
  have := h3 z hz
  simp [Lit.wf, IntKind.min, IntKind.max, IntKind.bits, IntKind.signed] at this
  omega

set_option maxRecDepth 100000 in
theorem setting_in (hv : Value.okWide Tryz.prog W r b0 38 v) (h : DataW.Trod enc Tryz.prog W 0 (fun _ => true) true 38 v d p) :
    ∃ (num rows : Int) (sg sp : Sl) (grps : List Int) (parts : List Nat), v = .agg #[.int .i64 num, .int .i64 rows, .slice sg.a sg.len sg.cap, .slice sp.a sp.len sp.cap] ∧ RoI (Cx.of W) sg grps ∧ SlR (Cx.of W).m sp (flts parts) := by
  obtain ⟨x, hx, ho⟩ := tr_arg (d := 6) (u := .st [.int .i64, .st [.int .i64, .sl (.int .i64)], .sl .flt]) (by kernel_rfl) h
  cases x <;> simp only [Tr.Ok] at ho
  rename_i xs
  match xs, ho, hx with
  | [x0, x1, x2], ho, hx =>
    simp only [Tr.OkL, and_true] at ho
    obtain ⟨h0, h1, h2⟩ := ho
    cases x0 <;> simp only [Tr.Ok] at h0
    rename_i k0 num
    obtain ⟨rfl, _⟩ := h0
    cases x2 <;> simp only [Tr.Ok] at h2
    rename_i sp px
    have h2 : Tr.Ok (Cx.of W) (.sl .flt) (.sl sp px) := by unfold Tr.Ok; exact h2
    cases x1 <;> simp only [Tr.Ok] at h1
    rename_i ys
    match ys, h1, hx with
    | [y0, y1], h1, hx =>
      simp only [Tr.OkL, and_true] at h1
      obtain ⟨g0, g1⟩ := h1
      cases y0 <;> simp only [Tr.Ok] at g0
      rename_i k1 rows
      obtain ⟨rfl, _⟩ := g0
      cases y1 <;> simp only [Tr.Ok] at g1
      rename_i sg gx
      have g1 : Tr.Ok (Cx.of W) (.sl (.int .i64)) (.sl sg gx) := by unfold Tr.Ok; exact g1
      obtain ⟨grps, a1, _, _⟩ := ints_form g1
      obtain ⟨parts, b1, _, b3⟩ := flts_form h2
      simp only [Value.okWide, Tryz.underlying38 ] at hv
      obtain ⟨cs, rfl, _⟩ := hv
      refine ⟨num, rows, sg, sp, grps, parts, ?_, a1, ⟨b1.len, b3, b1.mem⟩⟩
      have : cs.toList = [.int .i64 num, .int .i64 rows, .slice sg.a sg.len sg.cap, .slice sp.a sp.len sp.cap] := by rw [show cs.toList = (Value.agg cs).cells.toList from rfl, ← hx]; rfl
      congr 1
      exact Array.ext' this

abbrev stepU : U := .st [.int .i64, .int .i64, .int .i64, .int .i64, .str]
theorem stepL_form {R : Cx} {x : Tr} (ho : x.Ok R stepU) : ∃ s : StepL, x.cells = stepV s ∧ s.label.size ≤ 9223372036854775807 := by
  cases x <;> simp only [Tr.Ok] at ho
  rename_i xs
  match xs, ho with
  | [x0, x1, x2, x3, x4], ho =>
    simp only [Tr.OkL, and_true] at ho
    obtain ⟨h0, h1, h2, h3, h4⟩ := ho
    cases x0 <;> simp only [Tr.Ok] at h0
    rename_i k0 n0
    obtain ⟨rfl, _⟩ := h0
    cases x1 <;> simp only [Tr.Ok] at h1
    rename_i k1 n1
    obtain ⟨rfl, _⟩ := h1
    cases x2 <;> simp only [Tr.Ok] at h2
    rename_i k2 n2
    obtain ⟨rfl, _⟩ := h2
    cases x3 <;> simp only [Tr.Ok] at h3
    rename_i k3 n3
    obtain ⟨rfl, _⟩ := h3
    cases x4 <;> simp only [Tr.Ok] at h4
    rename_i l
    exact ⟨⟨n0, n1, n2, n3, l⟩, rfl, by unfold maxLen at h4; omega⟩
set_option maxRecDepth 100000 in
theorem stepsL_in (hv : Value.okWide Tryz.prog W r b0 39 v) (h : DataW.Trod enc Tryz.prog W 0 (fun _ => true) true 39 v d p) :
    ∃ (l : Sl) (ss : List StepL), v = .slice l.a l.len l.cap ∧ RoN 5 (Cx.of W) l (ss.map stepV) ∧ ∀ s ∈ ss, s.label.size ≤ 9223372036854775807 := by
  obtain ⟨a, n, c, rfl⟩ := okWide_slice Tryz.underlying39 hv
  obtain ⟨x, hx, ho⟩ := tr_arg (d := 6) (u := .sl stepU) (by kernel_rfl) h
  cases x <;> simp only [Tr.Ok] at ho
  rename_i s xs
  obtain ⟨ss, h1, _, h3⟩ := sl_form stepV (fun s => s.label.size ≤ 9223372036854775807) (show Tr.Ok (Cx.of W) (.sl stepU) (.sl s xs) by unfold Tr.Ok; exact ho) fun x hx => stepL_form hx
  refine ⟨s, ss, ?_, h1, h3⟩
  have : [Value.slice s.a s.len s.cap] = [Value.slice a n c] := by simpa [Tr.cells, Value.cells] using hx
  exact (List.cons.inj this).1.symm
set_option maxRecDepth 100000 in
theorem stepL_in (hv : Value.okWide Tryz.prog W r b0 45 v) (h : DataW.Trod enc Tryz.prog W 0 (fun _ => true) true 45 v d p) :
    ∃ s : StepL, v = .agg #[.int .i64 s.d, .int .i64 s.owner, .int .i64 s.cls, .int .i64 s.many, .string s.label] ∧ s.label.size ≤ 9223372036854775807 := by
  obtain ⟨x, hx, ho⟩ := tr_arg (d := 6) (u := stepU) (by kernel_rfl) h
  obtain ⟨s, he, hs⟩ := stepL_form ho
  simp only [Value.okWide, Tryz.underlying45 ] at hv
  obtain ⟨cs, rfl, _⟩ := hv
  refine ⟨s, ?_, hs⟩
  rw [he] at hx
  have : cs.toList = stepV s := by rw [hx]; rfl
  congr 1
  exact Array.ext' this
end Go.Proofs.YtaacfjdknlglhaaGreatDoor
/- FlightHolds. Condition: bounds. -/
namespace Go.Proofs.YtaacfjdknlglhaaGreatDoor
set_option linter.unusedVariables false
open Go Go.VC

variable {R R' : Cx} {Hs Rest : List HP} {w : World}

theorem rowH_fld {s : Sl} {L : List Hold} {ts : List Sl} {k : Nat} (h : HsR R s L ts) (hk : k < L.length) : ∃ t : Sl, SlR R.m t (intsI L[k].seats) ∧
    ∀ {S : World → Prop} {Hs : List HP} {i : Nat} {v : Value}, (∀ w, S w → Sat R Hs w) → (rowH L[k] t)[i]? = some v → ∀ {F : Addr → Prop}, (∀ a : Addr, a.spot = none → At S ⟨(a.add (mulS k 4)).block, (a.add (mulS k 4)).off + i, none⟩ [v] → F a) → Rng (k : Int) s.len (NilP s.a F) := by
  have hl := h.len
  have i2 : k < ts.length := by omega
  exact ⟨ts[k], h.seats k hk i2, fun {S Hs i v} hS hv {F} f => h.fld hS hk i2 hv f⟩
theorem hsR_len {s : Sl} {L : List Hold} {ts : List Sl} (h : HsR R s L ts) : s.len = L.length := by
  have := h.rows.len
  rwa [rowsH_len h.len] at this
theorem taken_nodup {r : RF} (g : Good r) {j : Nat} (hj : j < r.L.length) {k : Nat} (hk : k < r.L[j].seats.length) : r.L[j].seats[k] ∉ takenL (r.L.take j) ++ r.L[j].seats.take k := ((good_may g).each j hj).s k hk |>.1

set_option maxHeartbeats 1000000 in
theorem holds_lspec {num rows : Int} {sg sp l : Sl} {grps : List Int} {parts : List Nat} {ss : List StepL} (hg : RoI R sg grps) (hp : SlR R.m sp (flts parts)) (hr : RoN 5 R l (ss.map stepV)) (hsz : ∀ s ∈ ss, s.label.size ≤ 9223372036854775807) (hw : Sat R Hs w) :
    Gets Tryz.prog 4 #[.agg #[.int .i64 num, .int .i64 rows, .slice sg.a sg.len sg.cap, .slice sp.a sp.len sp.cap], .slice l.a l.len l.cap] w fun v w' => v = .bool true ∧ Sat R Hs w' := by
  have hll := steps_len hr
  apply call4
  suffices H : ∀ K : Value → World → Prop, (∀ w', Sat R Hs w' → K (.bool true) w') → B4 num rows sg sp l K w from H _ fun w' h => ⟨rfl, h⟩
  intro K hK
  refine new_rule hw fun bx w hw => ?_
  refine begin_spec hg hp hw hK ?_
  clear hw
  intro p q r w hw
  refine ⟨fun i w => ∃ j : Nat, i = j ∧ j ≤ 100 ∧ ∃ r', Sat R (PairAt p q r' :: Hs) w, fun i _ => 100 - i.toNat, ⟨0, rfl, by omega, r, hw⟩, ?_⟩
  clear hw
  rintro _ _ w ⟨j, rfl, hj, r0, hw⟩
  refine ⟨fun w => (j < ss.length ∧ j < 100) ∧ Sat R (PairAt p q r0 :: Hs) w, Br.d (fun h1 => Br.d (fun h2 => ⟨⟨by omega, by omega⟩, hw⟩) (fun h2 => hK _ hw.drop)) (fun h1 => hK _ hw.drop), ?_⟩
  clear hw
  rintro _ w ⟨⟨hj2, hj3⟩, hw⟩
  refine step_row hr (eqS hw) hj2 fun a ha => ⟨ss[j].d, ss[j].owner, ss[j].cls, ss[j].many, ss[j].label, ha.z ⟨rfl, rfl, rfl, rfl, rfl, trivial⟩, ?_⟩
  refine (do_spec (s := ss[j]) (hsz _ (List.getElem_mem _)) hw).use ?_
  clear hw
  rintro _ w ⟨rfl, hw⟩
  refine ⟨_, rfl, ?_⟩
  generalize stepR r0 ss[j] = r at *
  obtain ⟨g, hw⟩ := PairAt.open hw
  have hL := g.hL
  have hlm := g.hlims
  obtain ⟨sg, sl, s, ts, R1, e1, h1, hw, back, hl⟩ := Sat.rfO hw.swap
  have hlen : sl.len = r.lims.length := by have := h1.lims.len; rwa [List.length_map] at this
  have hlo := h1.lims.ro (R := R1) (by rw [List.length_map]; omega)
  refine NilP.mk rfl ⟨sl, At.own (eqS hw) (by exact ⟨rfl, trivial⟩), ?_⟩
  rw [hlen]
  refine zer_nums hlm hw fun tz w hw => ?_
  refine (lone_holds (hw.take (LoneAt p r))).use ?_
  clear hw
  rintro _ w ⟨th, rfl, hw⟩
  refine ⟨th, rfl, ?_⟩
  obtain ⟨R2, ts2, e2, h2, hw⟩ := HoldsL.leak hw
  have hthl := hsR_len h2
  have hw : Sat R2 (Own tz 3 (intsI (soldL r.lims.length [])) :: pts q (rCells r sg sl s) :: LoneAt p r :: Hs) w := hw.arr
  have close : ∀ {w}, Sat R2 (pts q (rCells r sg sl s) :: LoneAt p r :: Hs) w → Sat R (PairAt p q r :: Hs) w := fun hw =>
    PairAt.close (Sat.rf.2 ⟨sg, sl, s, ts, hl, back _ _ (e2.back hw)⟩ : Sat R (RFAt q r :: LoneAt p r :: Hs) _).swap
  have next : ∀ {r'' : RF} {w : World}, Sat R (PairAt p q r'' :: Hs) w → (∃ j_1 : Nat, IntKind.i64.wrap ((j : Int) + 1) = j_1 ∧ j_1 ≤ 100 ∧ ∃ r', Sat R (PairAt p q r' :: Hs) w) ∧ 100 - (IntKind.i64.wrap ((j : Int) + 1)).toNat < 100 - ((j : Int)).toNat := fun {r'' w} hw => by
    rw [wrap64 (by omega) (by omega)]
    exact ⟨⟨j + 1, by omega, by omega, _, hw⟩, by omega⟩
  refine ⟨fun told k w => ∃ i : Nat, k = i ∧ i ≤ r.L.length ∧ Sat R2 (Own told 3 (intsI (takenL (r.L.take i))) :: Own tz 3 (intsI (soldL r.lims.length (r.L.take i))) :: pts q (rCells r sg sl s) :: LoneAt p r :: Hs) w, fun _ k _ => r.L.length - k.toNat, ⟨0, rfl, by omega, Own.nil hw⟩, ?_⟩
  clear hw
  rintro _ told _ w ⟨i, rfl, hi, hw⟩
  refine Br.d (fun h3 => ?_) (fun h3 => ?_)
  · have hi1 : i < r.L.length := by omega
    have hh := g.each r.L[i] (List.getElem_mem _)
    have hcl := hh.cls
    have hm600 := g.len.2 r.L[i] (List.getElem_mem _)
    have hmany := hh.many
    have hfew := hh.few
    obtain ⟨tt, hts, row⟩ := rowH_fld h2 hi1
    have hro : RoI R2 tt r.L[i].seats := hts.ro (by rw [List.length_map]; omega)
    have hrl := hro.len
    have hsll := soldL_len r.lims.length (r.L.take i)
    have htz := Own.len (hw.take (Own tz 3 (intsI (soldL r.lims.length (r.L.take i)))))
    rw [List.length_map, hsll] at htz
    obtain ⟨c, hce⟩ := Int.eq_ofNat_of_zero_le hcl.1
    have hclt : c < r.lims.length := by omega
    have hcb := cntL_le (k := (c : Int)) (n := r.lims.length) (L := r.L.take i) fun x hx => g.hcls x (List.mem_of_mem_take hx)
    rw [List.length_take, Nat.min_eq_left hi] at hcb
    have hcv : (soldL r.lims.length (r.L.take i))[c]'(by rw [hsll]; exact hclt) = cntL (c : Int) (r.L.take i) := soldL_get _
    have hput : (soldL r.lims.length (r.L.take i)).set c (cntL (c : Int) (r.L.take i) + r.L[i].many) = soldL r.lims.length (r.L.take (i + 1)) := by
      have h5 := soldL_put (h := r.L[i]) (L := r.L.take i) (L' := r.L.take (i + 1)) (by
        rw [List.take_add_one, List.getElem?_eq_getElem hi1]
        exact List.perm_append_comm) hcl.1 hcl.2
      rw [hce, Int.toNat_natCast, soldL_getD hclt] at h5
      exact h5
    refine ⟨fun w => Sat R2 (Own told 3 (intsI (takenL (r.L.take i))) :: Own tz 3 (intsI (soldL r.lims.length (r.L.take i))) :: pts q (rCells r sg sl s) :: LoneAt p r :: Hs) w, ?_, ?_⟩
    · refine drw_rule hw fun w hw => ?_
      refine row (i := 1) selfS rfl fun a _ ha => ⟨r.L[i].cls, ha, Br.d (fun h => by omega) (fun _ => ?_)⟩
      refine row (i := 1) selfS rfl fun a _ ha => ⟨r.L[i].cls, ha, Br.d (fun h => by omega) (fun _ => ?_)⟩
      refine row (i := 3) selfS rfl fun a _ ha => ⟨tt, ha, ?_⟩
      refine row (i := 2) selfS rfl fun a _ ha => ⟨r.L[i].many, ha, Br.d (fun h => by omega) (fun _ => hw)⟩
    clear hw
    rintro _ w hw
    have hw : Sat R2 (Own tz 3 (intsI (soldL r.lims.length (r.L.take i))) :: Own told 3 (intsI (takenL (r.L.take i))) :: pts q (rCells r sg sl s) :: LoneAt p r :: Hs) w := hw.swap
    refine drw_rule hw fun w hw => ?_
    refine row (i := 1) selfS rfl fun a1 _ ha1 => ⟨r.L[i].cls, ha1, row (i := 1) selfS rfl fun a2 _ ha2 => ⟨r.L[i].cls, ha2, ?_⟩⟩
    rw [hce]
    refine Own.ix hw selfS c rfl (by rw [hsll]; exact hclt) ?_
    refine row (i := 2) selfS rfl fun a3 _ ha3 => ⟨r.L[i].many, ha3, ?_⟩
    rw [hcv, wrap64 (by omega) (by omega)]
    refine Own.store (by kernel_rfl) hw (by rw [hsll]; exact hclt) fun w hw => ?_
    rw [hput] at hw
    refine ⟨fun told k w => ∃ x : Nat, k = x ∧ x ≤ r.L[i].seats.length ∧ Sat R2 (Own told 3 (intsI (takenL (r.L.take i) ++ r.L[i].seats.take x)) :: Own tz 3 (intsI (soldL r.lims.length (r.L.take (i + 1)))) :: pts q (rCells r sg sl s) :: LoneAt p r :: Hs) w, fun _ k _ => r.L[i].seats.length - k.toNat, ⟨0, rfl, by omega, by simpa using hw.swap⟩, ?_⟩
    clear hw
    rintro _ told2 _ w ⟨x, rfl, hx, hw⟩
    have htk := takenL_len (L := r.L.take i) fun y hy => g.hseats y (List.mem_of_mem_take hy)
    rw [List.length_take, Nat.min_eq_left hi] at htk
    have hTl : (takenL (r.L.take i) ++ r.L[i].seats.take x).length ≤ 2000000000 := by rw [List.length_append, List.length_take]; omega
    refine row (i := 3) (eqS hw) rfl fun a4 _ ha4 => ⟨tt, ha4, Br.d (fun h4 => ?_) (fun h4 => ?_)⟩
    · have hx1 : x < r.L[i].seats.length := by omega
      have hnt := taken_nodup g hi1 hx1
      refine row (i := 3) (eqS hw) rfl fun a5 _ ha5 => ⟨tt, ha5, ?_⟩
      refine Ro.ix hro (eqS hw) x rfl hx1 ?_
      obtain ⟨R3, hrk, keep, hw, back3⟩ := Own.lendI hw (by omega)
      refine (has_spec hrk hw).use ?_
      clear hw
      rintro _ w ⟨rfl, hw⟩
      have hw := back3 hw
      rw [decide_eq_false hnt]
      refine ⟨_, rfl, Br.f rfl ?_⟩
      refine row (i := 3) (eqS hw) rfl fun a6 _ ha6 => ⟨tt, ha6, ?_⟩
      refine Ro.ix hro (eqS hw) x rfl hx1 ?_
      refine pushI_rule elI8 hw (by omega) fun s' w hw => ?_
      rw [wrap64 (by omega) (by omega)]
      refine ⟨⟨x + 1, by omega, by omega, ?_⟩, by dsimp only; omega⟩
      rw [show r.L[i].seats.take (x + 1) = r.L[i].seats.take x ++ [r.L[i].seats[x]] by rw [List.take_add_one, List.getElem?_eq_getElem hx1]; rfl, ← List.append_assoc]
      exact hw
    · rw [List.take_of_length_le (show r.L[i].seats.length ≤ x by omega), ← takenL_take hi1] at hw
      rw [wrap64 (by omega) (by omega)]
      exact ⟨⟨i + 1, by omega, by omega, hw⟩, by dsimp only; omega⟩
  · rw [List.take_of_length_le (show r.L.length ≤ i by omega)] at hw
    have hw := hw.drop
    refine NilP.mk rfl ⟨sl, At.own (eqS hw) (by exact ⟨rfl, trivial⟩), ?_⟩
    obtain ⟨R3, hrk, keep, hw, back3⟩ := Own.lendI hw (by rw [soldL_len]; omega)
    refine (rnright_spec (keep _ _ (e2.ro hlo)) hrk hw).use ?_
    clear hw
    rintro _ w ⟨rfl, hw⟩
    have hw := (back3 hw).drop
    have hnest : nestOk r.lims (soldL r.lims.length r.L) = true := g.nest
    rw [hnest]
    refine ⟨_, rfl, Br.f rfl ?_⟩
    have hrR2 : RoN 5 R2 l (ss.map stepV) := e2.roN (e1.roN hr)
    refine step_row hrR2 (eqS hw) hj2 fun a ha => ⟨ss[j].d, ha.zz ⟨rfl, trivial⟩, Br.d (fun h4 => ?_) (fun h4 => next (close hw))⟩
    refine step_row hrR2 (eqS hw) hj2 fun a ha => ⟨ss[j].owner, ha.f 1 ⟨rfl, trivial⟩, ?_⟩
    have hw := close hw
    obtain ⟨g, hw⟩ := PairAt.open hw
    obtain ⟨f, ⟨t, _⟩, _⟩ := Sat.lone.1 hw
    obtain ⟨_, _, g', hcode⟩ := tie_auto t g ss[j].owner
    refine (lone_auto hw).use ?_
    clear hw
    rintro _ w ⟨t1, rfl, hw⟩
    refine ⟨_, _, rfl, ?_⟩
    refine step_row hr (eqS hw) hj2 fun a ha => ⟨ss[j].owner, ha.f 1 ⟨rfl, trivial⟩, ?_⟩
    refine (rauto_fspec hL g.hgrps g.hseats (hw.take (RFAt q r))).use ?_
    clear hw
    rintro _ w ⟨t2, rfl, hw⟩
    have hw : Sat R (LoneAt p (rautoF r ss[j].owner).1 :: RFAt q (rautoF r ss[j].owner).1 :: Hs) w := (hw.drop.take (Own t1 9 ((rautoF r ss[j].owner).2.1.map Value.string))).drop.swap
    have hw := next (PairAt.close hw)
    refine ⟨_, _, rfl, Br.ne (fun h5 => Br.ne (fun h6 => Br.ne (fun h7 => ?_) (fun _ => hw)) (fun _ => hw)) (fun _ => hw)⟩
    rcases hcode with h | h | h
    · exact absurd h h5
    · exact absurd h h6
    · exact absurd h h7
end Go.Proofs.YtaacfjdknlglhaaGreatDoor
/- FlightAuto. Condition: bounds. -/
namespace Go.Proofs.YtaacfjdknlglhaaGreatDoor
set_option linter.unusedVariables false
open Go Go.VC

variable {R R' : Cx} {Hs Rest : List HP} {w : World}

theorem rauto_hit {r : RF} (g : Good r) {o : Int} {hd : Hold} (hget : getO o r.L = some hd) (hs : hd.seats.length = 0) :
    (rautoF r o).2.2 = 0 ∧ ((rautoF r o).2.1.length : Int) = hd.many ∧ rlabelsF (rautoF r o).1 o = (rautoF r o).2.1 := by
  obtain ⟨A, C, hL, hA, ho⟩ := getO_split hget
  have hb := g.best hL (List.length_eq_zero_iff.1 hs)
  have e : rautoF r o = ({ r with L := A ++ { hd with seats := (bestT r.rows r.grps (takenL r.L) hd.many).1 } :: C }, labsF r.rows r.grps (bestT r.rows r.grps (takenL r.L) hd.many).1, 0) := by
    unfold rautoF
    rw [hget]
    dsimp only
    rw [if_neg (by omega), if_pos hb, show setO o { hd with seats := (bestT r.rows r.grps (takenL r.L) hd.many).1 } r.L = A ++ { hd with seats := (bestT r.rows r.grps (takenL r.L) hd.many).1 } :: C by rw [hL]; exact setO_app ho hA]
  rw [e]
  refine ⟨rfl, ?_, ?_⟩
  · show ((labsF _ _ _).length : Int) = _
    unfold labsF
    rw [List.length_map]
    exact best_cnt hb
  · unfold rlabelsF
    dsimp only
    rw [getO_app (h := { hd with seats := (bestT r.rows r.grps (takenL r.L) hd.many).1 }) ho hA]
theorem rauto_miss {r : RF} (g : Good r) {o : Int} (h : ∀ x ∈ r.L, x.owner = o → 0 < x.seats.length) : (rautoF r o).2.2 ≠ 0 ∧ (rautoF r o).2.1 = [] := by
  unfold rautoF
  cases hget : getO o r.L with
  | none => exact ⟨by simp, rfl⟩
  | some hd =>
    obtain ⟨h1, h2⟩ := (getO_iff g.rise.ne).1 hget
    have h3 := h hd h1 h2
    dsimp only
    rw [if_pos (by omega)]
    exact ⟨by simp, rfl⟩

set_option maxHeartbeats 1000000 in
theorem auto_lspec {num rows owner : Int} {sg sp l : Sl} {grps : List Int} {parts : List Nat} {ss : List StepL} (hg : RoI R sg grps) (hp : SlR R.m sp (flts parts)) (hr : RoN 5 R l (ss.map stepV)) (hsz : ∀ s ∈ ss, s.label.size ≤ 9223372036854775807) (hw : Sat R Hs w) :
    Gets Tryz.prog 5 #[.agg #[.int .i64 num, .int .i64 rows, .slice sg.a sg.len sg.cap, .slice sp.a sp.len sp.cap], .slice l.a l.len l.cap, .int .i64 owner] w fun v w' => v = .bool true ∧ Sat R Hs w' := by
  apply call5
  suffices H : ∀ K : Value → World → Prop, (∀ w', Sat R Hs w' → K (.bool true) w') → B5 num rows sg sp l owner K w from H _ fun w' h => ⟨rfl, h⟩
  intro K hK
  refine new_rule hw fun bx w hw => ?_
  refine begin_spec hg hp hw hK ?_
  clear hw
  intro p q r w hw
  refine steps_spec hr hsz hw ?_
  clear hw
  intro r w hw
  obtain ⟨g, hw⟩ := PairAt.open hw
  have hL := g.hL
  refine (lone_holds hw).use ?_
  clear hw
  rintro _ w ⟨th, rfl, hw⟩
  refine ⟨th, rfl, ?_⟩
  obtain ⟨R2, ts2, e2, h2, hw⟩ := HoldsL.leak hw
  have hthl := hsR_len h2
  refine ⟨fun k w => ∃ i : Nat, k = i ∧ i ≤ r.L.length ∧ (∀ x (hx : x < r.L.length), x < i → r.L[x].owner = owner → 0 < r.L[x].seats.length) ∧ Sat R2 (LoneAt p r :: RFAt q r :: Hs) w, fun k _ => r.L.length - k.toNat, ⟨0, rfl, by omega, fun x hx h0 => by omega, hw⟩, ?_⟩
  clear hw
  rintro _ _ w ⟨i, rfl, hi, hno, hw⟩
  refine Br.d (fun h3 => ?_) (fun h3 => ?_)
  · have hi1 : i < r.L.length := by omega
    obtain ⟨tt, hts, row⟩ := rowH_fld h2 hi1
    have hro : RoI R2 tt r.L[i].seats := hts.ro (by rw [List.length_map]; have := g.hseats r.L[i] (List.getElem_mem _); omega)
    have hrl := hro.len
    have again : (r.L[i].owner = owner → 0 < r.L[i].seats.length) → (∃ j : Nat, IntKind.i64.wrap ((i : Int) + 1) = j ∧ j ≤ r.L.length ∧ (∀ x (hx : x < r.L.length), x < j → r.L[x].owner = owner → 0 < r.L[x].seats.length) ∧ Sat R2 (LoneAt p r :: RFAt q r :: Hs) w) ∧ r.L.length - (IntKind.i64.wrap ((i : Int) + 1)).toNat < r.L.length - ((i : Int)).toNat := fun h => by
      rw [wrap64 (by omega) (by omega)]
      refine ⟨⟨i + 1, by omega, by omega, fun x hx hxi ho => ?_, hw⟩, by omega⟩
      by_cases hxe : x = i
      · subst hxe; exact h ho
      · exact hno x hx (by omega) ho
    refine ⟨fun w => (r.L[i].owner = owner ∧ r.L[i].seats.length = 0) ∧ Sat R2 (LoneAt p r :: RFAt q r :: Hs) w, ?_, ?_⟩
    · refine h2.fld (j := 0) (eqS hw) hi1 (by rw [h2.len]; exact hi1) rfl fun x nx hx => ⟨r.L[i].owner, by rw [add_zero_fld _ _ nx]; exact hx, Br.ne (fun h4 => again fun h5 => absurd h5 h4) (fun h4 => ?_)⟩
      refine row (i := 3) (eqS hw) rfl fun a _ ha => ⟨tt, ha, ?_⟩
      rw [hrl]
      exact Br.d (fun h5 => again fun _ => by omega) (fun h5 => ⟨⟨h4, by omega⟩, hw⟩)
    clear hw
    rintro _ w ⟨⟨h4, h5⟩, hw⟩
    have hget : getO owner r.L = some r.L[i] := (getO_iff g.rise.ne).2 ⟨List.getElem_mem _, h4⟩
    obtain ⟨c1, c2, c3⟩ := rauto_hit g hget h5
    refine (lone_auto hw).use ?_
    clear hw
    rintro _ w ⟨t1, rfl, hw⟩
    rw [c1]
    refine ⟨_, _, rfl, ?_⟩
    refine (lone_labels (hw.take (LoneAt p (rautoF r owner).1))).use ?_
    clear hw
    rintro _ w ⟨t2, rfl, hw⟩
    rw [c3] at hw
    refine ⟨t2, rfl, ?_⟩
    have hm600 := g.len.2 r.L[i] (List.getElem_mem _)
    have ht1 := Own.len (hw.take (Own t1 9 ((rautoF r owner).2.1.map Value.string)))
    rw [List.length_map] at ht1
    obtain ⟨R3, e3, s3, hw⟩ := Own.leak hw
    obtain ⟨R4, e4, s4, hw⟩ := Own.leak (hw.take (Own t1 9 ((rautoF r owner).2.1.map Value.string)))
    refine (sameT_spec (s := t2) (t := t1) (a := (rautoF r owner).2.1) (b := (rautoF r owner).2.1) ((e4.slR s3).ro (by rw [List.length_map]; omega)) (s4.ro (by rw [List.length_map]; omega)) hw).use ?_
    clear hw
    rintro _ w ⟨rfl, hw⟩
    have hw := e3.back (e4.back hw)
    refine ⟨_, rfl, Br.t rfl ?_⟩
    refine row (i := 2) (eqS hw) rfl fun a _ ha => ⟨r.L[i].many, ha, ?_⟩
    refine Br.t (by rw [ht1, beq_iff_eq]; exact c2) ?_
    rw [decide_eq_true rfl]
    exact hK _ (e2.back hw).drop.drop
  · obtain ⟨m1, m2⟩ := rauto_miss g (o := owner) fun x hx => by
      obtain ⟨y, hy, rfl⟩ := List.getElem_of_mem hx
      exact hno y hy (by omega)
    refine (lone_auto hw).use ?_
    clear hw
    rintro _ w ⟨t1, rfl, hw⟩
    rw [m2] at hw
    have ht1 := Own.len hw
    refine ⟨_, _, rfl, Br.t (by simpa using m1) ?_⟩
    rw [show ((t1.len : Int) == 0) = true by rw [ht1]; rfl]
    exact hK _ (e2.back hw).drop.drop.drop
end Go.Proofs.YtaacfjdknlglhaaGreatDoor
/- FlightUnseats, FlightBack. Condition: bounds. -/
namespace Go.Proofs.YtaacfjdknlglhaaGreatDoor
set_option linter.unusedVariables false
open Go Go.VC

variable {R R' : Cx} {Hs Rest : List HP} {w : World}

/-! ### Plain: a seat told and taken back -/
theorem taken_nd {r : RF} (g : Good r) : (takenL r.L).Nodup := by
  have key : ∀ L : List Hold, (L.Pairwise fun a b => ∀ x ∈ a.seats, x ∉ b.seats) → (∀ h ∈ L, Rise h.seats) → (takenL L).Nodup := fun L => by
    induction L with
    | nil => exact fun _ _ => List.nodup_nil
    | cons h L ih =>
      intro hp hr
      obtain ⟨h1, h2⟩ := List.pairwise_cons.1 hp
      show (h.seats ++ takenL L).Nodup
      rw [List.nodup_append]
      refine ⟨?_, ih h2 fun x hx => hr x (List.mem_cons_of_mem _ hx), fun a ha b hb e => ?_⟩
      · rw [List.nodup_iff_pairwise_ne]
        exact (rise_iff.1 (hr h List.mem_cons_self)).imp fun h => by omega
      · subst e
        obtain ⟨y, hy, hyb⟩ := mem_taken.1 hb
        exact h1 y hy a ha hyb
  exact key r.L g.apart fun h hh => (g.each h hh).rise
theorem lab_iff {n k : Int} {g : List Int} {lab : ByteArray} (hl : layOk n g = true) (hk : 0 ≤ k ∧ k < layN n g) : (labT n g k).1 = lab ↔ findT n g lab = (k, 0) := by
  obtain ⟨l1, l2, l3⟩ := layOk_iff.1 hl
  have hi := find_iff (n := n) (w := g.sum) (k := k) (lab := lab) (by omega) (sum_pos l2 l1.2.2.1) l3
  have e1 : (labT n g k).1 = labS g.sum k := by unfold labT; rw [if_pos hk]
  have e2 : findT n g lab = findP n g.sum lab := by unfold findT; rw [if_pos hl]
  rw [e1, e2, hi, ← layN_ok hl]
  exact ⟨fun h => ⟨hk.1, hk.2, h⟩, fun h => h.2.2⟩
def cntI (k : Int) (l : List Int) : Nat := l.countP fun x => decide (x = k)
def cntB (lab : ByteArray) (l : List ByteArray) : Nat := l.countP fun x => decide (x = lab)
theorem cntI_app (k : Int) (a b : List Int) : cntI k (a ++ b) = cntI k a + cntI k b := List.countP_append
theorem cntB_app (k : ByteArray) (a b : List ByteArray) : cntB k (a ++ b) = cntB k a + cntB k b := List.countP_append
theorem cntI_nd {k : Int} : ∀ {l : List Int}, l.Nodup → cntI k l = if k ∈ l then 1 else 0
  | [], _ => rfl
  | x :: l, h => by
    obtain ⟨h1, h2⟩ := List.nodup_cons.1 h
    have ih := cntI_nd (k := k) h2
    have e : cntI k (x :: l) = cntI k l + if decide (x = k) = true then 1 else 0 := List.countP_cons
    rw [e, ih]
    by_cases hx : x = k
    · subst hx
      rw [if_neg h1, if_pos (by simp), if_pos List.mem_cons_self]
    · rw [if_neg (show ¬ decide (x = k) = true by simpa using hx), Nat.add_zero]
      by_cases hk : k ∈ l
      · rw [if_pos hk, if_pos (List.mem_cons_of_mem _ hk)]
      · rw [if_neg hk, if_neg]
        intro h3
        rcases List.mem_cons.1 h3 with h3 | h3
        · exact hx h3.symm
        · exact hk h3
theorem count_lab {n k : Int} {g : List Int} {lab : ByteArray} (hl : layOk n g = true) (hf : findT n g lab = (k, 0)) : ∀ {l : List Int}, (∀ x ∈ l, 0 ≤ x ∧ x < layN n g) → cntB lab (labsF n g l) = cntI k l
  | [], _ => rfl
  | x :: l, h => by
    have ih := count_lab hl hf fun y hy => h y (List.mem_cons_of_mem _ hy)
    have hx := h x List.mem_cons_self
    have e1 : cntB lab (labsF n g (x :: l)) = cntB lab (labsF n g l) + if decide ((labT n g x).1 = lab) = true then 1 else 0 := List.countP_cons
    have e2 : cntI k (x :: l) = cntI k l + if decide (x = k) = true then 1 else 0 := List.countP_cons
    rw [e1, e2, ih]
    congr 2
    rw [decide_eq_true_eq, decide_eq_true_eq, lab_iff hl hx, hf]
    rw [eq_iff_iff]
    exact ⟨fun h => (Prod.mk.inj h).1.symm, fun h => by rw [h]⟩

/-- What telling a seat does, where it goes through. -/
theorem seat_ok {r : RF} (g : Good r) {o : Int} {lab : ByteArray} (h : (rseatF r o lab).2 = 0) : ∃ A hd C n, findT r.rows r.grps lab = (n, 0) ∧ r.L = A ++ hd :: C ∧ hd.owner = o ∧ getO o A = none ∧ n ∉ takenL r.L ∧ rseatF r o lab = ({ r with L := A ++ hd.put n :: C }, 0) := by
  unfold rseatF at h ⊢
  cases hg : getO o r.L with
  | none => rw [hg] at h; cases h
  | some hd =>
    rw [hg] at h
    obtain ⟨A, C, hL, hA, ho⟩ := getO_split hg
    dsimp only at h ⊢
    split at h
    · cases h
    rename_i h1
    split at h
    · cases h
    rename_i h2
    split at h
    · cases h
    rename_i h3
    rw [if_neg h1, if_neg h2, if_neg h3]
    refine ⟨A, hd, C, (findT r.rows r.grps lab).1, ?_, hL, ho, hA, h3, ?_⟩
    · have : (findT r.rows r.grps lab).2 = 0 := Classical.byContradiction h1
      rw [← this]
    · rw [hL, setO_app ho hA]
theorem seat_no {r : RF} {o : Int} {lab : ByteArray} (h : (rseatF r o lab).2 ≠ 0) : (rseatF r o lab).1 = r ∧ ((rseatF r o lab).2 = 2 ∨ (rseatF r o lab).2 = 7 ∨ (rseatF r o lab).2 = 3) := by
  unfold rseatF at h ⊢
  split at h
  · exact ⟨rfl, .inl rfl⟩
  · split at h
    · rename_i h1; rw [if_pos h1]; exact ⟨rfl, .inl rfl⟩
    rename_i h1
    rw [if_neg h1]
    split at h
    · rename_i h2; rw [if_pos h2]; exact ⟨rfl, .inr (.inl rfl)⟩
    rename_i h2
    rw [if_neg h2]
    split at h
    · rename_i h3; rw [if_pos h3]; exact ⟨rfl, .inr (.inr rfl)⟩
    · exact absurd rfl h
theorem filter_ins {n : Int} : ∀ {l : List Int}, n ∉ l → (insS n l).filter (fun x => !(x == n)) = l
  | [], _ => by simp [insS]
  | x :: l, h => by
    have hx : x ≠ n := fun e => h (by rw [e]; exact List.mem_cons_self)
    have hl : n ∉ l := fun e => h (List.mem_cons_of_mem _ e)
    have all : ∀ {l : List Int}, n ∉ l → l.filter (fun x => !(x == n)) = l := fun {l} h => List.filter_eq_self.2 fun y hy => by
      have : y ≠ n := fun e => h (by rw [← e]; exact hy)
      simpa using this
    unfold insS
    split
    · rw [List.filter_cons_of_pos (by simpa using hx), filter_ins hl]
    · rw [List.filter_cons_of_neg (by simp), List.filter_cons_of_pos (by simpa using hx), all hl]
theorem unseat_seat {r : RF} {A C : List Hold} {hd : Hold} {n o : Int} {lab : ByteArray} (hf : findT r.rows r.grps lab = (n, 0)) (hL : r.L = A ++ hd :: C) (ho : hd.owner = o) (hA : getO o A = none) (hn : n ∉ takenL r.L) :
    runseatF { r with L := A ++ hd.put n :: C } o lab = (r, 0) := by
  have hnh : n ∉ hd.seats := fun e => hn (mem_taken.2 ⟨hd, by rw [hL]; simp, e⟩)
  unfold runseatF
  dsimp only
  rw [getO_app (h := hd.put n) ho hA]
  dsimp only
  rw [hf]
  dsimp only
  rw [if_neg (by simp), if_pos (show n ∈ (hd.put n).seats from mem_insS.2 (.inl rfl)), setO_app (h := hd.put n) ho hA]
  have e : (hd.put n).cut n = hd := by
    unfold Hold.cut Hold.put
    dsimp only
    rw [filter_ins hnh]
  rw [e, ← hL]

/-! ### Plain: taken and given back -/
theorem insH_split {h : Hold} : ∀ {L : List Hold}, getO h.owner L = none → ∃ A C, insH h L = A ++ h :: C ∧ L = A ++ C ∧ getO h.owner A = none
  | [], _ => ⟨[], [], rfl, rfl, rfl⟩
  | x :: L, hn => by
    rw [getO_cons] at hn
    split at hn
    · cases hn
    rename_i hx
    unfold insH
    split
    · obtain ⟨A, C, h1, h2, h3⟩ := insH_split hn
      exact ⟨x :: A, C, by rw [h1]; rfl, by rw [h2]; rfl, by rw [getO_cons, if_neg hx]; exact h3⟩
    · exact ⟨[], x :: L, rfl, rfl, rfl⟩
theorem take_ok {r : RF} {o c m : Int} (h : (rtakeF r o c m).2 = 0) : ∃ A C, rtakeF r o c m = ({ r with L := A ++ ⟨o, c, m, []⟩ :: C }, 0) ∧ r.L = A ++ C ∧ getO o A = none := by
  unfold rtakeF at h ⊢
  split at h
  · cases h
  rename_i h1
  split at h
  · cases h
  rename_i h2
  rw [if_neg h1, if_neg h2]
  split at h
  · rename_i h3
    rw [if_pos h3]
    have hno : getO o r.L = none := by cases e : getO o r.L with | none => rfl | some x => rw [e] at h2; simp at h2
    obtain ⟨A, C, e1, e2, e3⟩ := insH_split (h := ⟨o, c, m, []⟩) hno
    exact ⟨A, C, by rw [e1], e2, e3⟩
  · rename_i h3; exact absurd h h3
theorem take_no {r : RF} {o c m : Int} (h : (rtakeF r o c m).2 ≠ 0) : (rtakeF r o c m).1 = r := by
  unfold rtakeF at h ⊢
  split at h
  · rename_i h1; rw [if_pos h1]
  rename_i h1
  rw [if_neg h1]
  split at h
  · rename_i h2; rw [if_pos h2]
  rename_i h2
  rw [if_neg h2]
  split at h
  · exact absurd rfl h
  · rename_i h3; rw [if_neg h3]
/-- Taken, perhaps told a seat, given back. -/
theorem take_give {r : RF} {o c m : Int} {lab : ByteArray} (h : (rtakeF r o c m).2 = 0) : rgiveF (rseatF (rtakeF r o c m).1 o lab).1 o = (r, 0) := by
  obtain ⟨A, C, e, hL, hA⟩ := take_ok h
  rw [e]
  have give : ∀ hd : Hold, hd.owner = o → rgiveF { r with L := A ++ hd :: C } o = (r, 0) := fun hd ho => by
    unfold rgiveF
    dsimp only
    rw [getO_app ho hA]
    dsimp only
    rw [delO_app ho hA, ← hL]
  have hs : ∃ hd : Hold, hd.owner = o ∧ (rseatF { r with L := A ++ ⟨o, c, m, []⟩ :: C } o lab).1 = { r with L := A ++ hd :: C } := by
    unfold rseatF
    dsimp only
    rw [getO_app (h := ⟨o, c, m, []⟩) rfl hA]
    dsimp only
    split
    · exact ⟨⟨o, c, m, []⟩, rfl, rfl⟩
    · split
      · exact ⟨⟨o, c, m, []⟩, rfl, rfl⟩
      · split
        · exact ⟨⟨o, c, m, []⟩, rfl, rfl⟩
        · refine ⟨Hold.put ⟨o, c, m, []⟩ (findT r.rows r.grps lab).1, rfl, ?_⟩
          rw [setO_app (h := ⟨o, c, m, []⟩) rfl hA]
  obtain ⟨hd, ho, e2⟩ := hs
  rw [e2]
  exact give hd ho
end Go.Proofs.YtaacfjdknlglhaaGreatDoor
/- FlightUnseats, FlightBack: the laws. Condition: bounds. -/
namespace Go.Proofs.YtaacfjdknlglhaaGreatDoor
set_option linter.unusedVariables false
open Go Go.VC

variable {R R' : Cx} {Hs Rest : List HP} {w : World}

abbrev stC (b : Nat) (s : StepL) : HP := pts b (.cells (stepV s).toArray 45 (0, 0))
/-- 'string(b)', in the world as it is. -/
theorem str_now {t : Sl} {xs : List Int} (hs : Ro R t (b8 xs)) (hw : Sat R Hs w) : ∀ w', (fun w' => w' = w) w' → (convert 22 9 (.slice t.a t.len t.cap)).run Tryz.prog w' = .ok (.string (VC.strOf xs)) w' :=
  fun w' e => by rw [show w' = w from e]; exact convS_ro u8s Tryz.underlying5 Tryz.underlying9 hw hs
theorem str_in {S : World → Prop} {t : Sl} {xs : List Int} (hs : Ro R t (b8 xs)) (hS : ∀ w, S w → Sat R Hs w) : ∀ w', S w' → (convert 22 9 (.slice t.a t.len t.cap)).run Tryz.prog w' = .ok (.string (VC.strOf xs)) w' :=
  fun w' e => convS_ro u8s Tryz.underlying5 Tryz.underlying9 (hS w' e) hs

set_option maxHeartbeats 1000000 in
theorem unseats_lspec {num rows : Int} {sg sp l : Sl} {grps : List Int} {parts : List Nat} {ss : List StepL} {s : StepL} (hg : RoI R sg grps) (hp : SlR R.m sp (flts parts)) (hr : RoN 5 R l (ss.map stepV)) (hsz : ∀ s ∈ ss, s.label.size ≤ 9223372036854775807) (hs : s.label.size ≤ 9223372036854775807) (hw : Sat R Hs w) :
    Gets Tryz.prog 6 #[.agg #[.int .i64 num, .int .i64 rows, .slice sg.a sg.len sg.cap, .slice sp.a sp.len sp.cap], .slice l.a l.len l.cap, .agg #[.int .i64 s.d, .int .i64 s.owner, .int .i64 s.cls, .int .i64 s.many, .string s.label]] w fun v w' => v = .bool true ∧ Sat R Hs w' := by
  apply call6
  suffices H : ∀ K : Value → World → Prop, (∀ w', Sat R Hs w' → K (.bool true) w') → B6 num rows sg sp l s.d s.owner s.cls s.many s.label K w from H _ fun w' h => ⟨rfl, h⟩
  intro K hK
  refine new_rule hw fun bx w hw => ?_
  refine new_rule hw fun bs w hw => ?_
  have hw : Sat R (setC bx num rows sg sp :: stC bs s :: Hs) w := hw.swap
  refine begin_spec hg hp hw (fun w hw => hK _ hw.drop) ?_
  clear hw
  intro p q r w hw
  refine steps_spec hr hsz hw ?_
  clear hw
  intro r w hw
  obtain ⟨g, hw⟩ := PairAt.open hw
  have hw : Sat R (LoneAt p r :: stC bs s :: Hs) w := hw.cons fun _ h => h.drop
  obtain ⟨_, bl⟩ := renc_bd g
  refine (lone_encode hw).use ?_
  clear hw
  rintro _ w ⟨tb, rfl, hw⟩
  obtain ⟨R1, e1, s1, hw⟩ := Own.leak hw
  have hB : Ro R1 tb (b8 (rencB r)) := s1.ro (by rw [List.length_map]; omega)
  have hw := hw.swap
  refine ⟨tb, rfl, s.owner, At.own (eqS hw) (by exact ⟨rfl, trivial⟩), s.label, At.own (eqS hw) (by exact ⟨rfl, trivial⟩), ?_⟩
  refine (lone_seat hs hw.swap).use ?_
  clear hw
  rintro _ w ⟨rfl, hw⟩
  refine ⟨_, rfl, Br.ne (fun h1 => ?_) (fun h1 => ?_)⟩
  · obtain ⟨er, ec⟩ := seat_no h1
    rw [er] at hw
    refine drw_rule hw fun w hw => ?_
    have fin : ∀ {w : World}, Sat R1 (LoneAt p r :: stC bs s :: Hs) w → ∃ t87 : ByteArray, (∀ w', (Sat R1 (LoneAt p r :: stC bs s :: Hs)) w' → ((convert 22 9 (.slice tb.a tb.len tb.cap))).run Tryz.prog w' = .ok (.string t87) w') ∧
      Calls Tryz.prog 23 #[.pointer (some ⟨p, 0, none⟩)] w fun e_6 w_14 =>
      ∃ t84 : Sl, (e_6 = .returned (.slice t84.a t84.len t84.cap)) ∧
      (Sat R1 (LoneAt p r :: stC bs s :: Hs)) w_14 ∧
      ∃ t85 : ByteArray, (∀ w', (fun w' => w' = w_14) w' → ((convert 22 9 (.slice t84.a t84.len t84.cap))).run Tryz.prog w' = .ok (.string t85) w') ∧
      K (.bool (t85.toList == t87.toList)) w_14 := fun {w} hw => by
      refine ⟨VC.strOf (rencB r), str_in hB selfS, (lone_encode hw).use ?_⟩
      rintro _ w ⟨tc, rfl, hw⟩
      obtain ⟨R2, e2, s2, hw2⟩ := Own.leak hw
      refine ⟨tc, rfl, hw.drop, VC.strOf (rencB r), str_now (s2.ro (by rw [List.length_map]; omega)) hw2, ?_⟩
      rw [str_eql, decide_eq_true rfl]
      exact hK _ (e1.back hw.drop.drop.drop)
    refine Br.e (fun _ => fin hw) (fun h2 => Br.e (fun _ => fin hw) (fun h3 => Br.e (fun _ => fin hw) (fun h4 => ?_)))
    rcases ec with h | h | h
    · exact absurd h h2
    · exact absurd h h3
    · exact absurd h h4
  · obtain ⟨A, hd, C, n, hf, hL, ho, hA, hn, er⟩ := seat_ok g h1
    rw [er] at hw
    have g' := lone_good hw
    obtain ⟨r', hr'⟩ : ∃ r' : RF, r' = { r with L := A ++ hd.put n :: C } := ⟨_, rfl⟩
    have hlay : r'.rows = r.rows ∧ r'.grps = r.grps := by rw [hr']; exact ⟨rfl, rfl⟩
    have hun : runseatF r' s.owner s.label = (r, 0) := by rw [hr']; exact unseat_seat hf hL ho hA hn
    have hcount : cntI n (takenL r'.L) = 1 := by
      rw [cntI_nd (by rw [hr']; exact taken_nd g'), if_pos]
      rw [hr']
      exact mem_taken.2 ⟨hd.put n, by simp, mem_insS.2 (.inl rfl)⟩
    rw [← hr'] at hw g'
    have g' : Good r' := g'
    have hw : Sat R1 (LoneAt p r' :: stC bs s :: Hs) w := hw
    clear er hr'
    have hL' := g'.hL
    refine (lone_holds hw).use ?_
    clear hw
    rintro _ w ⟨th, rfl, hw⟩
    refine ⟨th, rfl, ?_⟩
    obtain ⟨R2, ts2, e2, h2, hw⟩ := HoldsL.leak hw
    have hthl := hsR_len h2
    have hB2 := e2.ro hB
    have htl := takenL_len g'.hseats
    have cle : ∀ l : List Int, cntI n l ≤ l.length := fun l => List.countP_le_length
    refine ⟨fun mine k w => ∃ i : Nat, k = i ∧ i ≤ r'.L.length ∧ mine = (cntI n (takenL (r'.L.take i)) : Nat) ∧ Sat R2 (LoneAt p r' :: stC bs s :: Hs) w, fun _ k _ => r'.L.length - k.toNat, ⟨0, rfl, by omega, rfl, hw⟩, ?_⟩
    clear hw
    rintro _ mine _ w ⟨i, rfl, hi, rfl, hw⟩
    refine Br.d (fun h3 => ?_) (fun h3 => ?_)
    · have hi1 : i < r'.L.length := by omega
      have hh := g'.each r'.L[i] (List.getElem_mem _)
      have hse := g'.hseats r'.L[i] (List.getElem_mem _)
      have hget : getO r'.L[i].owner r'.L = some r'.L[i] := (getO_iff g'.rise.ne).2 ⟨List.getElem_mem _, rfl⟩
      have hlabs : rlabelsF r' r'.L[i].owner = labsF r'.rows r'.grps r'.L[i].seats := by unfold rlabelsF; rw [hget]
      refine h2.fld (j := 0) (eqS hw) hi1 (by rw [h2.len]; exact hi1) rfl fun x nx hx => ⟨r'.L[i].owner, by rw [add_zero_fld _ _ nx]; exact hx, ?_⟩
      refine (lone_labels hw).use ?_
      clear hw
      rintro _ w ⟨tl, rfl, hw⟩
      rw [hlabs] at hw
      refine ⟨tl, rfl, ?_⟩
      obtain ⟨R3, e3, s3, hw⟩ := Own.leak hw
      have hlen : (labsF r'.rows r'.grps r'.L[i].seats).length = r'.L[i].seats.length := by unfold labsF; rw [List.length_map]
      have hT : Ro R3 tl ((labsF r'.rows r'.grps r'.L[i].seats).map Value.string) := s3.ro (by rw [List.length_map, hlen]; omega)
      have htll := hT.len
      rw [List.length_map, hlen] at htll
      have hti := takenL_len (L := r'.L.take i) fun y hy => g'.hseats y (List.mem_of_mem_take hy)
      rw [List.length_take, Nat.min_eq_left hi] at hti
      have hci := cle (takenL (r'.L.take i))
      have hf' : findT r'.rows r'.grps s.label = (n, 0) := by rw [hlay.1, hlay.2]; exact hf
      refine ⟨fun mine k w => ∃ x : Nat, k = x ∧ x ≤ r'.L[i].seats.length ∧ mine = (cntI n (takenL (r'.L.take i)) + cntB s.label ((labsF r'.rows r'.grps r'.L[i].seats).take x) : Nat) ∧ Sat R3 (LoneAt p r' :: stC bs s :: Hs) w, fun _ k _ => r'.L[i].seats.length - k.toNat, ⟨0, rfl, by omega, by simp [cntB], hw⟩, ?_⟩
      clear hw
      rintro _ mine2 _ w ⟨x, rfl, hx, rfl, hw⟩
      have cB : cntB s.label ((labsF r'.rows r'.grps r'.L[i].seats).take x) ≤ x := Nat.le_trans List.countP_le_length (by rw [List.length_take]; omega)
      refine Br.d (fun h4 => ?_) (fun h4 => ?_)
      · have hx1 : x < (labsF r'.rows r'.grps r'.L[i].seats).length := by rw [hlen]; omega
        have htk : (labsF r'.rows r'.grps r'.L[i].seats).take (x + 1) = (labsF r'.rows r'.grps r'.L[i].seats).take x ++ [(labsF r'.rows r'.grps r'.L[i].seats)[x]] := by rw [List.take_add_one, List.getElem?_eq_getElem hx1]; rfl
        refine drw_rule hw fun w hw => ?_
        refine hT.idxStr (eqS hw) hx1 ⟨s.label, At.own (eqS hw) (by exact ⟨rfl, trivial⟩), ?_⟩
        rw [wrap64 (x := (x : Int) + 1) (by omega) (by omega)]
        refine Br.se (fun h5 => ?_) (fun h5 => ?_)
        · rw [wrap64 (by omega) (by omega)]
          refine ⟨⟨x + 1, by omega, by omega, ?_, hw⟩, by dsimp only; omega⟩
          rw [htk, cntB_app, show cntB s.label [(labsF r'.rows r'.grps r'.L[i].seats)[x]] = 1 by unfold cntB; rw [List.countP_singleton, if_pos (by simpa using h5)]]
          omega
        · refine ⟨⟨x + 1, by omega, by omega, ?_, hw⟩, by dsimp only; omega⟩
          rw [htk, cntB_app, show cntB s.label [(labsF r'.rows r'.grps r'.L[i].seats)[x]] = 0 by unfold cntB; rw [List.countP_singleton, if_neg (by simpa using h5)]]
          omega
      · rw [List.take_of_length_le (show (labsF r'.rows r'.grps r'.L[i].seats).length ≤ x by rw [hlen]; omega), count_lab (by rw [hlay.1, hlay.2]; exact g.lay) hf' (fun y hy => hh.seats y hy)]
        rw [wrap64 (x := (i : Int) + 1) (by omega) (by omega)]
        refine ⟨⟨i + 1, by omega, by omega, ?_, e3.back hw⟩, by dsimp only; omega⟩
        rw [takenL_take hi1, cntI_app]
    · rw [List.take_of_length_le (show r'.L.length ≤ i by omega), hcount]
      have hw := hw.swap
      refine ⟨s.owner, At.own (eqS hw) (by exact ⟨rfl, trivial⟩), s.label, At.own (eqS hw) (by exact ⟨rfl, trivial⟩), ?_⟩
      refine (lone_unseat hs hw.swap).use ?_
      clear hw
      rintro _ w ⟨rfl, hw⟩
      rw [hun] at hw ⊢
      have hw : Sat R2 (LoneAt p r :: stC bs s :: Hs) w := hw
      refine ⟨_, rfl, drw_rule hw fun w hw => Br.t rfl (Br.t rfl ?_)⟩
      refine ⟨VC.strOf (rencB r), str_in hB2 selfS, (lone_encode hw).use ?_⟩
      rintro _ w ⟨tc, rfl, hw⟩
      obtain ⟨R4, e4, s4, hw2⟩ := Own.leak hw
      refine ⟨tc, rfl, hw.drop, VC.strOf (rencB r), str_now (s4.ro (by rw [List.length_map]; omega)) hw2, ?_⟩
      rw [str_eql, decide_eq_true rfl]
      exact hK _ (e1.back (e2.back hw.drop.drop.drop))

set_option maxHeartbeats 1000000 in
theorem back_lspec {num rows : Int} {sg sp l : Sl} {grps : List Int} {parts : List Nat} {ss : List StepL} {s : StepL} (hg : RoI R sg grps) (hp : SlR R.m sp (flts parts)) (hr : RoN 5 R l (ss.map stepV)) (hsz : ∀ s ∈ ss, s.label.size ≤ 9223372036854775807) (hs : s.label.size ≤ 9223372036854775807) (hw : Sat R Hs w) :
    Gets Tryz.prog 8 #[.agg #[.int .i64 num, .int .i64 rows, .slice sg.a sg.len sg.cap, .slice sp.a sp.len sp.cap], .slice l.a l.len l.cap, .agg #[.int .i64 s.d, .int .i64 s.owner, .int .i64 s.cls, .int .i64 s.many, .string s.label]] w fun v w' => v = .bool true ∧ Sat R Hs w' := by
  apply call8
  suffices H : ∀ K : Value → World → Prop, (∀ w', Sat R Hs w' → K (.bool true) w') → B8 num rows sg sp l s.d s.owner s.cls s.many s.label K w from H _ fun w' h => ⟨rfl, h⟩
  intro K hK
  refine new_rule hw fun bx w hw => ?_
  refine new_rule hw fun bs w hw => ?_
  have hw : Sat R (setC bx num rows sg sp :: stC bs s :: Hs) w := hw.swap
  refine begin_spec hg hp hw (fun w hw => hK _ hw.drop) ?_
  clear hw
  intro p q r w hw
  refine steps_spec hr hsz hw ?_
  clear hw
  intro r w hw
  obtain ⟨g, hw⟩ := PairAt.open hw
  have hw : Sat R (LoneAt p r :: stC bs s :: Hs) w := hw.cons fun _ h => h.drop
  obtain ⟨bd, bl⟩ := renc_bd g
  obtain ⟨f', hdec, tie'⟩ := dec_enc g
  refine (lone_encode hw).use ?_
  clear hw
  rintro _ w ⟨tb, rfl, hw⟩
  obtain ⟨R1, e1, s1, hw⟩ := Own.leak hw
  have hB : Ro R1 tb (b8 (rencB r)) := s1.ro (by rw [List.length_map]; omega)
  have hw := hw.swap
  refine ⟨tb, rfl, s.owner, At.own (eqS hw) (by exact ⟨rfl, trivial⟩), s.cls, At.own (eqS hw) (by exact ⟨rfl, trivial⟩), s.many, At.own (eqS hw) (by exact ⟨rfl, trivial⟩), ?_⟩
  refine (lone_take hw.swap).use ?_
  clear hw
  rintro _ w ⟨rfl, hw⟩
  refine ⟨_, rfl, fun w => Sat R1 (LoneAt p r :: stC bs s :: Hs) w, Br.e (fun h1 => ?_) (fun h1 => ?_), ?_⟩
  · have hw := hw.swap
    refine ⟨s.owner, At.own (eqS hw) (by exact ⟨rfl, trivial⟩), s.label, At.own (eqS hw) (by exact ⟨rfl, trivial⟩), ?_⟩
    refine (lone_seat hs hw.swap).use ?_
    clear hw
    rintro _ w ⟨rfl, hw⟩
    have hw := hw.swap
    refine ⟨_, rfl, s.owner, At.own (eqS hw) (by exact ⟨rfl, trivial⟩), ?_⟩
    refine (lone_give hw.swap).use ?_
    clear hw
    rintro _ w ⟨rfl, hw⟩
    rw [take_give h1] at hw ⊢
    exact ⟨_, rfl, Br.f rfl hw⟩
  · rw [take_no h1] at hw; exact hw
  clear hw
  rintro _ w hw
  refine (lone_encode hw).use ?_
  clear hw
  rintro _ w ⟨tc, rfl, hw⟩
  obtain ⟨R2, e2, s2, hw⟩ := Own.leak hw
  have hC : Ro R2 tc (b8 (rencB r)) := s2.ro (by rw [List.length_map]; omega)
  refine ⟨tc, rfl, ?_⟩
  refine (decode_fspec bd (e2.ro hB) (by omega) hw).use ?_
  clear hw
  rintro _ w (⟨hd, _⟩ | ⟨f2, p2, hd, rfl, hw⟩)
  · rw [hdec] at hd; cases hd
  rw [hdec] at hd
  cases hd
  have hw : Sat R2 (LoneAt p2 r :: LoneAt p r :: stC bs s :: Hs) w := Sat.lone.2 ⟨f', ⟨tie', g⟩, hw⟩
  refine ⟨_, _, rfl, fun w => Sat R2 (LoneAt p2 r :: LoneAt p r :: stC bs s :: Hs) w, Br.f rfl (Br.f rfl hw), ?_⟩
  clear hw
  rintro _ w hw
  refine (lone_encode hw).use ?_
  clear hw
  rintro _ w ⟨td, rfl, hw⟩
  obtain ⟨R3, e3, s3, hw⟩ := Own.leak hw
  have hD : Ro R3 td (b8 (rencB r)) := s3.ro (by rw [List.length_map]; omega)
  refine ⟨td, rfl, ?_⟩
  refine (lone_holds hw).use ?_
  clear hw
  rintro _ w ⟨th1, rfl, hw⟩
  obtain ⟨R4, ts4, e4, h4, hw⟩ := HoldsL.leak hw
  refine ⟨th1, rfl, ?_⟩
  refine (lone_holds hw.swap).use ?_
  clear hw
  rintro _ w ⟨th2, rfl, hw⟩
  obtain ⟨R5, ts5, e5, h5, hw⟩ := HoldsL.leak hw
  refine ⟨th2, rfl, ?_⟩
  have h45 : HsR R5 th1 r.L ts4 := ⟨h4.len, e5.roN h4.rows, fun i a b => e5.slR (h4.seats i a b)⟩
  refine (sameH_spec h45 h5 g.hL (fun x hx => by have := g.hseats x hx; omega) (fun x hx => by have := g.hseats x hx; omega) hw).use ?_
  clear hw
  rintro _ w ⟨rfl, hw⟩
  rw [decide_eq_true rfl]
  have hB5 : Ro R5 tb (b8 (rencB r)) := e5.ro (e4.ro (e3.ro (e2.ro hB)))
  have hC5 : Ro R5 tc (b8 (rencB r)) := e5.ro (e4.ro (e3.ro hC))
  have hD5 : Ro R5 td (b8 (rencB r)) := e5.ro (e4.ro hD)
  refine ⟨_, rfl, VC.strOf (rencB r), str_now hB5 hw, VC.strOf (rencB r), str_now hC5 hw, Br.t (by rw [str_eql, decide_eq_true rfl]) ⟨VC.strOf (rencB r), str_now hB5 hw, VC.strOf (rencB r), str_now hD5 hw, Br.t (by rw [str_eql, decide_eq_true rfl]) ?_⟩⟩
  exact hK _ (e1.back (e2.back (e3.back (e4.back (e5.back hw.drop.drop.drop)))))
end Go.Proofs.YtaacfjdknlglhaaGreatDoor
