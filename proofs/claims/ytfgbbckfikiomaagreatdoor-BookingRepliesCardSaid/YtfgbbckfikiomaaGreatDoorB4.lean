/- Package booking: Answer. Condition: bounds on lengths. -/
import Derived.Test.YtfgbbckfikiomaaGreatDoorB3
import Derived.Test.YtfgbbckfikiomaaGreatDoorB1
import Derived.ProofKit
import Derived.OpenShut
import Derived.ShutString
import Derived.ChangeOld
import Derived.Below
import Derived.Lib.SmallJoins
import Derived.Test.YtfgbbckfikiomaaGreatDoorB2
namespace Go.Proofs.YtfgbbckfikiomaaGreatDoor
set_option linter.unusedVariables false
open Go Go.VC
variable {R : Cx} {Hs Rest : List HP} {w : World}
theorem _root_.Go.VC.Ro.ixStr {xs : List ByteArray} {s : Sl} {S : World → Prop} {i : Int} (hr : Ro R s (xs.map Value.string)) (hS : ∀ w, S w → Sat R Hs w) (j : Nat) (hi : i = j) (hj : j < xs.length) {F : ByteArray → Prop} (h : F xs[j]) :
    Rng i s.len (NilP s.a fun a => ∃ t : ByteArray, (At S (a.add i.toNat) [.string t]) ∧ F t) := by
  subst hi
  obtain ⟨a, ha, hat⟩ := hr.addr (k := j) (by rw [List.length_map]; exact hj)
  have hl := hr.len
  rw [List.length_map] at hl
  exact Rng.mk (by omega) (by omega) (NilP.mk ha ⟨_, by have := hat hS; rw [List.getElem_map] at this; exact this, h⟩)
abbrev rpV (r : Rp) (sl sb : Sl) : List Value := [.int .i64 r.code, .string r.pnr, .int .i64 r.state, .int .i64 r.flt, .int .i64 r.cls, .int .i64 r.many, .int .i64 r.time, .slice sl.a sl.len sl.cap, .slice sb.a sb.len sb.cap]
abbrev rpC (b : Nat) (r : Rp) (sl sb : Sl) : HP := pts b (.cells (rpV r sl sb).toArray 31 (0, 0))
structure RpW (r : Rp) : Prop where
  ints : ∀ x ∈ [r.code, r.state, r.flt, r.cls, r.many, r.time] ++ r.left, x < 9223372036854775808
  pnr : r.pnr.size ≤ 100000
  ll : r.left.length ≤ 100000
  bl : r.labs.length ≤ 100000
  labs : ∀ s ∈ r.labs, s.size ≤ 100000
theorem nn5 {a b c d e : Int} : numsB ([a, b, c, d, e].map nn) = numsB [nn a] ++ (numsB [nn b] ++ (numsB [nn c] ++ (numsB [nn d] ++ numsB [nn e]))) := by
  show numsB [nn a, nn b, nn c, nn d, nn e] = _
  rw [numsB_sp (nn a), numsB_sp (nn b), numsB_sp (nn c), numsB_sp (nn d)]
set_option maxHeartbeats 1000000 in
theorem banswer_spec {r : Rp} {sl sb : Sl} (hi : RpW r) (hg : RoI R sl r.left) (hp : SlR R.m sb (r.labs.map Value.string)) (hw : Sat R Hs w) :
    Gets Tryz.prog 25 #[.agg #[.int .i64 r.code, .string r.pnr, .int .i64 r.state, .int .i64 r.flt, .int .i64 r.cls, .int .i64 r.many, .int .i64 r.time, .slice sl.a sl.len sl.cap, .slice sb.a sb.len sb.cap]] w fun v w' =>
      ∃ t : Sl, v = .slice t.a t.len t.cap ∧ Sat R (Own t 5 (b8 (rpB r)) :: Hs) w' := by
  have hplen : sb.len = r.labs.length := by have := hp.len; simpa using this
  have i1 := hi.ints
  have i2 := hi.pnr
  have i3 := hi.ll
  have i4 := hi.bl
  have q : ∀ x ∈ [r.code, r.state, r.flt, r.cls, r.many, r.time] ++ r.left, 0 ≤ nn x ∧ nn x < 18446744073709551616 := fun x hx => by have := nn_bd (i1 x hx); omega
  have l1 := nums1_len (q r.code (by simp))
  have l2 := strB_len (s := r.pnr) i2
  have l3 := nums1_len (q r.state (by simp))
  have l4 := nums1_len (q r.flt (by simp))
  have l5 := nums1_len (q r.cls (by simp))
  have l6 := nums1_len (q r.many (by simp))
  have l7 := nums1_len (q r.time (by simp))
  have l10 := nums1_len (x := (r.left.length : Int)) (by omega)
  have l11 := numsB_len (l := r.left.map nn) fun y hy => by obtain ⟨x, hx, rfl⟩ := List.mem_map.1 hy; exact q x (by simp [hx])
  rw [List.length_map] at l11
  have l12 := nums1_len (x := (r.labs.length : Int)) (by omega)
  apply call25
  refine new_rule hw fun b w hw => ?_
  have hw : Sat R (rpC b r sl sb :: Hs) w := hw
  refine new_rule hw fun p w hw => ?_
  have hw : Sat R (WrB p [] :: rpC b r sl sb :: Hs) w := Sat.wrB.2 ⟨⟨none, 0, 0⟩, (Own.nil hw).swap⟩
  refine ⟨r.code, At.own (eqS hw) (by exact ⟨rfl, trivial⟩), ?_⟩
  refine new_rule hw fun b15 w hw => ?_
  refine (wlit_spec (xs := [r.code]) rfl (fun x hx => i1 x (by rw [List.mem_singleton.1 hx]; simp)) (by simp) hw).use ?_
  clear hw
  rintro _ w ⟨rfl, hw⟩
  refine ⟨rfl, ?_⟩
  rw [show [r.code].map nn = [nn r.code] from rfl, List.nil_append] at hw
  refine ⟨r.pnr, At.own (eqS hw) (by exact ⟨rfl, trivial⟩), ?_⟩
  refine wstr_rule (by omega) hw fun w hw => ?_
  refine ⟨r.state, At.own (eqS hw) (by exact ⟨rfl, trivial⟩), r.flt, At.own (eqS hw) (by exact ⟨rfl, trivial⟩), r.cls, At.own (eqS hw) (by exact ⟨rfl, trivial⟩), r.many, At.own (eqS hw) (by exact ⟨rfl, trivial⟩), r.time, At.own (eqS hw) (by exact ⟨rfl, trivial⟩), ?_⟩
  refine new_rule hw fun b31 w hw => ?_
  refine (wlit_spec (xs := [r.state, r.flt, r.cls, r.many, r.time]) rfl (fun x hx => i1 x (by simp only [List.mem_cons, List.not_mem_nil, or_false] at hx; simp only [List.cons_append, List.mem_cons]; rcases hx with h | h | h | h | h <;> simp [h])) (by simp only [List.length_append, List.length_cons, List.length_nil]; omega) hw).use ?_
  clear hw
  rintro _ w ⟨rfl, hw⟩
  refine ⟨rfl, ?_⟩
  rw [nn5] at hw
  refine ⟨sl, At.own (eqS hw) (by exact ⟨rfl, trivial⟩), ?_⟩
  refine (wlist_spec (xs := r.left) (fun y hy => i1 y (by simp [hy])) i3 (by simp only [List.length_append]; omega) hg hw).use ?_
  clear hw
  rintro _ w ⟨rfl, hw⟩
  refine ⟨rfl, ?_⟩
  refine ⟨sb, At.own (eqS hw) (by exact ⟨rfl, trivial⟩), ?_⟩
  refine new_rule hw fun b57 w hw => ?_
  refine (wlit_spec (xs := [(sb.len : Int)]) rfl (by simp; omega) (by simp only [List.length_append, List.length_cons, List.length_nil]; omega) hw).use ?_
  clear hw
  rintro _ w ⟨rfl, hw⟩
  refine ⟨rfl, ?_⟩
  rw [nn1 (by omega), show ((sb.len : Nat) : Int) = (r.labs.length : Int) by omega] at hw
  refine ⟨sb, At.own (eqS hw) (by exact ⟨rfl, trivial⟩), ?_⟩
  obtain ⟨B, hBl, hB, hw⟩ : ∃ B : List Int, B.length ≤ 2000000 ∧ B ++ (r.labs.map strB).flatten = rpB r ∧ Sat R (WrB p B :: rpC b r sl sb :: Hs) w :=
    ⟨_, by simp only [List.length_append]; omega, by unfold rpB; simp only [List.append_assoc], hw⟩
  refine ⟨fun i w => ∃ k : Nat, i = k ∧ k ≤ r.labs.length ∧ Sat R (WrB p (B ++ ((r.labs.take k).map strB).flatten) :: rpC b r sl sb :: Hs) w, fun i _ => r.labs.length - i.toNat, ⟨0, rfl, by omega, by simpa using hw⟩, ?_⟩
  clear hw
  rintro _ _ w ⟨k, rfl, hk, hw⟩
  refine Br.d (fun h => ?_) (fun h => ?_)
  · have hkx : k < r.labs.length := by omega
    have hfl := flat_len (l := r.labs.take k) (code := strB) (m := 100009) fun x hx => by have := hi.labs x (List.mem_of_mem_take hx); have := strB_len this; omega
    rw [List.length_take] at hfl
    have hsk := hi.labs _ (List.getElem_mem hkx)
    refine Ro.ixStr (hp.ro (by rw [List.length_map]; omega)) (eqS hw) k rfl hkx ?_
    refine wstr_rule (by rw [List.length_append]; omega) hw fun w hw => ?_
    rw [wrap64 (by omega) (by omega)]
    refine ⟨⟨k + 1, by omega, by omega, ?_⟩, by dsimp only; omega⟩
    rw [List.take_add_one, List.getElem?_eq_getElem hkx, List.map_append, List.flatten_append, ← List.append_assoc]
    simpa using hw
  · rw [List.take_of_length_le (l := r.labs) (by omega), hB] at hw
    obtain ⟨s, hw⟩ := Sat.wrB.1 hw
    refine ⟨s, At.own (eqS hw) (by exact ⟨rfl, trivial⟩), s, rfl, ?_⟩
    exact (hw.drop.swap).drop
end Go.Proofs.YtfgbbckfikiomaaGreatDoor
/- Package booking: a reader. Condition: bounds on lengths. -/
namespace Go.Proofs.YtfgbbckfikiomaaGreatDoor
set_option linter.unusedVariables false
open Go Go.VC
variable {R : Cx} {Hs Rest : List HP} {w : World}
theorem bnum_spec {r : Nat} {rd : Rd} {most : Int} (hb : Bytes rd.bs) (h0 : 0 ≤ most) (h1 : most < 9223372036854775808) (hw : Sat R (RdAt r rd :: Hs) w) :
    Gets Tryz.prog 78 #[.agg #[.pointer (some ⟨r, 0, none⟩)], .int .i64 most] w fun v w' => v = .int .i64 (rdNum most rd).1 ∧ Sat R (RdAt r (rdNum most rd).2 :: Hs) w' := by
  have hv := rdNum_val hb h0
  apply call78
  refine new_rule hw fun b w hw => ?_
  refine ⟨_, At.own (eqS hw) (by exact ⟨rfl, trivial⟩), ?_⟩
  rw [wrapU64 (by omega) (by omega)]
  refine (rnum_spec hb hw.drop).use ?_
  rintro _ w ⟨rfl, hw⟩
  refine ⟨_, rfl, ?_, hw⟩
  rw [wrap64 (by omega) (by omega)]
theorem bstr_spec {r : Nat} {rd : Rd} {most : Int} (hb : Bytes rd.bs) (hl : rd.bs.length ≤ 1099511627776) (h1 : most < 9223372036854775808) (hw : Sat R (RdAt r rd :: Hs) w) :
    Gets Tryz.prog 79 #[.agg #[.pointer (some ⟨r, 0, none⟩)], .int .i64 most] w fun v w' => v = .string (strRd most rd).1 ∧ Sat R (RdAt r (strRd most rd).2 :: Hs) w' := by
  apply call79
  refine new_rule hw fun b w hw => ?_
  refine ⟨_, At.own (eqS hw) (by exact ⟨rfl, trivial⟩), ?_⟩
  refine (rtext_spec h1 hl hb hw.drop).use ?_
  rintro _ w ⟨t, rfl, hw⟩
  have hlen := rdText_len (most := most) (rd := rd)
  obtain ⟨R', hr, _, hw2, back⟩ := Own.lend hw (by rw [List.length_map]; omega)
  refine ⟨t, rfl, VC.strOf (rdText most rd).1, fun w' e => ?_, rfl, hw.drop⟩
  rw [show w' = w from e]
  exact convS_ro Tryz.underlying42 Tryz.underlying5 Tryz.underlying9 hw2 hr
end Go.Proofs.YtfgbbckfikiomaaGreatDoor
/- Package booking: so many things, one by one. Condition: bounds on lengths. -/
namespace Go.Proofs.YtfgbbckfikiomaaGreatDoor
set_option linter.unusedVariables false
open Go Go.VC
variable {R : Cx} {Hs Rest : List HP} {w : World}
theorem timesI_spec {r n : Nat} {rd : Rd} {f : Value} {one : Rd → Int × Rd} {I : Rd → Prop} (hI : ∀ rd, I rd → I (one rd).2) (hn : n ≤ 100000) (h0 : I rd)
    (hone : ∀ (T : HP) (rd : Rd) (w : World), I rd → Sat R (RdAt r rd :: T :: Hs) w → CalW Tryz.prog cl f [] w fun e w' => e = .returned (.int .i64 (one rd).1) ∧ Sat R (RdAt r (one rd).2 :: T :: Hs) w')
    (hw : Sat R (RdAt r rd :: Hs) w) :
    Gets Tryz.prog 80 #[.int .i64 n, f] w fun v w' => ∃ t : Sl, v = .slice t.a t.len t.cap ∧ Sat R (Own t 3 (intsI (rdEach one n rd).1) :: RdAt r (rdEach one n rd).2 :: Hs) w' := by
  apply call80
  have inv : ∀ k, I (rdEach one k rd).2 := fun k => (rdEach_inv (one := one) (P := I) (Q := fun _ => True) (fun r hr => ⟨trivial, hI r hr⟩) k h0).2
  refine ⟨fun out i w => ∃ k : Nat, i = k ∧ k ≤ n ∧ Sat R (Own out 3 (intsI (rdEach one k rd).1) :: RdAt r (rdEach one k rd).2 :: Hs) w, fun _ i _ => n - i.toNat, ⟨0, rfl, by omega, Own.nil hw⟩, ?_⟩
  clear hw
  rintro _ out _ w ⟨k, rfl, hk, hw⟩
  refine Br.d (fun h => ?_) (fun h => ?_)
  · refine (hone _ _ _ (inv k) hw.swap).mono ?_
    rintro _ w ⟨rfl, hw⟩
    refine ⟨_, rfl, ?_⟩
    have hl := rdEach_len one k rd
    refine pushI_rule elI8 hw.swap (by rw [hl]; omega) fun out' w hw => ?_
    rw [wrap64 (by omega) (by omega)]
    refine ⟨⟨k + 1, by omega, by omega, ?_⟩, by dsimp only; omega⟩
    rw [rdEach_snoc]
    exact hw
  · have : k = n := by omega
    subst this
    exact ⟨out, rfl, hw⟩
end Go.Proofs.YtfgbbckfikiomaaGreatDoor
/- Package booking: so many texts, so many floats, one by one. Condition: bounds on lengths. -/
namespace Go.Proofs.YtfgbbckfikiomaaGreatDoor
set_option linter.unusedVariables false
open Go Go.VC
variable {R : Cx} {Hs Rest : List HP} {w : World}
theorem timesS_spec {r n : Nat} {rd : Rd} {f : Value} {one : Rd → ByteArray × Rd} {I : Rd → Prop} (hI : ∀ rd, I rd → I (one rd).2) (hn : n ≤ 100000) (h0 : I rd)
    (hone : ∀ (T : HP) (rd : Rd) (w : World), I rd → Sat R (RdAt r rd :: T :: Hs) w → CalW Tryz.prog cl f [] w fun e w' => e = .returned (.string (one rd).1) ∧ Sat R (RdAt r (one rd).2 :: T :: Hs) w')
    (hw : Sat R (RdAt r rd :: Hs) w) :
    Gets Tryz.prog 81 #[.int .i64 n, f] w fun v w' => ∃ t : Sl, v = .slice t.a t.len t.cap ∧ Sat R (Own t 9 (strs (rdEach one n rd).1) :: RdAt r (rdEach one n rd).2 :: Hs) w' := by
  apply call81
  have inv : ∀ k, I (rdEach one k rd).2 := fun k => (rdEach_inv (one := one) (P := I) (Q := fun _ => True) (fun r hr => ⟨trivial, hI r hr⟩) k h0).2
  refine ⟨fun out i w => ∃ k : Nat, i = k ∧ k ≤ n ∧ Sat R (Own out 9 (strs (rdEach one k rd).1) :: RdAt r (rdEach one k rd).2 :: Hs) w, fun _ i _ => n - i.toNat, ⟨0, rfl, by omega, Own.nil hw⟩, ?_⟩
  clear hw
  rintro _ out _ w ⟨k, rfl, hk, hw⟩
  refine Br.d (fun h => ?_) (fun h => ?_)
  · refine (hone _ _ _ (inv k) hw.swap).mono ?_
    rintro _ w ⟨rfl, hw⟩
    refine ⟨_, rfl, ?_⟩
    have hl := rdEach_len one k rd
    refine push_rule elStr hw.swap (oneAll_str _) rfl (by rw [List.length_map, hl]; omega) (by rw [List.length_map, hl]; omega) fun out' w hw => ?_
    rw [wrap64 (by omega) (by omega)]
    refine ⟨⟨k + 1, by omega, by omega, ?_⟩, by dsimp only; omega⟩
    rw [rdEach_snoc]
    simpa using hw
  · have : k = n := by omega
    subst this
    exact ⟨out, rfl, hw⟩
end Go.Proofs.YtfgbbckfikiomaaGreatDoor
/- Reference 18: numbers as bytes. Condition: bounds on lengths. -/
namespace Go.Proofs.YtfgbbckfikiomaaGreatDoor
set_option linter.unusedVariables false
open Go Go.VC
variable {R : Cx} {Hs Rest : List HP} {w : World}
theorem r18nums_spec {s : Sl} {xs : List Int} (hxs : ∀ x ∈ xs, x < 9223372036854775808) (hl : 9 * xs.length ≤ 1099511627776) (hs : RoI R s xs) (hw : Sat R Hs w) :
    Gets Tryz.prog 71 #[.slice s.a s.len s.cap] w fun v w' => ∃ t : Sl, v = .slice t.a t.len t.cap ∧ Sat R (Own t 5 (b8 (numsB (xs.map nn))) :: Hs) w' := by
  have hlen := hs.len
  apply call71
  refine ⟨fun out i w => ∃ k : Nat, i = k ∧ k ≤ xs.length ∧ Sat R (Own out 5 (b8 (numsB ((xs.take k).map nn))) :: Hs) w, fun _ i _ => xs.length - i.toNat, ⟨0, rfl, by omega, Own.nil hw⟩, ?_⟩
  clear hw
  rintro _ out _ w ⟨k, rfl, hk, hw⟩
  refine Br.d (fun h => ?_) (fun h => ?_)
  · have hkx : k < xs.length := by omega
    have hx := nn_bd (hxs xs[k] (List.getElem_mem _))
    have hxt : ∀ x ∈ (xs.take k).map nn, 0 ≤ x ∧ x < 18446744073709551616 := fun x hx => by
      obtain ⟨y, hy, rfl⟩ := List.mem_map.1 hx
      have := nn_bd (hxs y (List.mem_of_mem_take hy)); omega
    have hnl := numsB_len hxt
    rw [List.length_map, List.length_take] at hnl
    refine Ro.ix hs (eqS hw) k rfl hkx ?_
    rw [nn_if]
    obtain ⟨n, hn⟩ := Int.eq_ofNat_of_zero_le hx.1
    rw [hn, wrapU64 (by omega) (by omega)]
    refine (rnumber_spec (by omega) hw).use ?_
    rintro _ w ⟨t, rfl, hw⟩
    refine ⟨t, rfl, ?_⟩
    have hnb := numB_len (n := n) (by omega)
    refine appendOO elB8 (s := out) (n := 1099511627790) Tryz.underlying42 hw.swap (by omega) (by omega) (by omega) fun s2 w hw => ?_
    rw [wrap64 (by omega) (by omega)]
    refine ⟨⟨k + 1, by omega, by omega, ?_⟩, by dsimp only; omega⟩
    have e : (xs.take (k + 1)).map nn = (xs.take k).map nn ++ [nn xs[k]] := by rw [List.take_add_one, List.getElem?_eq_getElem hkx, List.map_append]; rfl
    rw [e, numsB_app, show numsB [nn xs[k]] = numB (nn xs[k]).toNat by simp [numsB], hn, Int.toNat_natCast]
    exact hw.swap.drop
  · rw [List.take_of_length_le (l := xs) (by omega)] at hw
    exact ⟨out, rfl, hw⟩
end Go.Proofs.YtfgbbckfikiomaaGreatDoor
/- Reference 02: a reader's text, at this seat. Condition: bounds on lengths. -/
namespace Go.Proofs.YtfgbbckfikiomaaGreatDoor
set_option linter.unusedVariables false
open Go Go.VC
variable {R : Cx} {Hs Rest : List HP} {w : World}
theorem _root_.Go.VC.SlR.b8take {h : Heap} {s : Sl} {xs : List Int} (a : SlR h s (b8 xs)) {k : Nat} (hk : k ≤ xs.length) : SlR h ⟨s.a, k, s.cap⟩ (b8 (xs.take k)) := by
  have := a.take (k := k) (by simpa using hk)
  simpa using this
theorem _root_.Go.VC.SlR.b8drop {h : Heap} {s : Sl} {xs : List Int} (a : SlR h s (b8 xs)) {k : Nat} (hk : k ≤ xs.length) : SlR h (sdrop s k) (b8 (xs.drop k)) := by
  have := a.drop (k := k) (by simpa using hk)
  simpa using this
theorem rrtext_spec {r : Nat} {s : Sl} {bs : List Int} {rd : Rd} {most : Int} (hm : most < 9223372036854775808) (hl : bs.length ≤ 1099511627776) (hb : ∀ x ∈ bs, 0 ≤ x ∧ x < 256) (hs : SlR R.m s (b8 bs)) (hw : Sat R (RRdAt r s bs rd :: Hs) w) :
    Gets Tryz.prog 85 #[.pointer (some ⟨r, 0, none⟩), .int .i64 most] w fun v w' => ∃ t : Sl, v = .slice t.a t.len t.cap ∧ Sat R (Own t 5 (b8 (rdText most rd).1) :: RRdAt r s bs (rdText most rd).2 :: Hs) w' := by
  have hsl : s.len = bs.length := by have := hs.len; simpa using this
  have hscap := hs.cap
  obtain ⟨n, ⟨hn, hd⟩, hw⟩ := Sat.rrd.1 hw
  have hlen : rd.bs.length = bs.length - n := by rw [← hd, List.length_drop]
  have hb2 : ∀ x ∈ rd.bs, 0 ≤ x ∧ x < 256 := fun x hx => hb x (by rw [← hd] at hx; exact List.mem_of_mem_drop hx)
  apply call85
  refine (rnext_spec hl hb hs hn hw).use ?_
  rintro _ w ⟨rfl, hw⟩
  refine ⟨_, _, _, rfl, ?_⟩
  rw [hd]
  have bad : rdText most rd = ([], ⟨rd.bs, true⟩) → ∀ {w}, Sat R (pts r (rrCells s n rd.bad) :: Hs) w → NilP (some ⟨r, 0, none⟩) fun a_t25 =>
      ∃ w_2 : World, ((Instr.storeAt 4 (.pointer ((some ⟨a_t25.block, a_t25.off + 2, none⟩))) (.bool true)).run Tryz.prog w = .ok () w_2) ∧
      (∃ t : Sl, Value.slice none 0 0 = .slice t.a t.len t.cap ∧ Sat R (Own t 5 (b8 (rdText most rd).1) :: RRdAt r s bs (rdText most rd).2 :: Hs) w_2) := fun e w hw => by
    refine NilP.mk rfl ?_
    refine store_rule hw (by kernel_rfl) rfl (by simp [Value.cells]) fun w hw => ?_
    have hw := hw.re (pts r (rrCells s n true))
    rw [e]
    exact ⟨⟨none, 0, 0⟩, rfl, Own.nil (Sat.rrd.2 ⟨n, ⟨hn, hd⟩, hw⟩)⟩
  refine ⟨fun w => (∃ x k, rd.bad = false ∧ parse rd.bs = some (x, false, k) ∧ 0 ≤ most ∧ x ≤ most ∧ x ≤ (rd.bs.length : Int) - k) ∧ Sat R (pts r (rrCells s n rd.bad) :: Hs) w, drw_rule hw fun w hw => ?_, ?_⟩
  · by_cases hbd : rd.bad = true
    · have e : nextR ⟨rd.bs, rd.bad⟩ = (0, false, 0) := by unfold nextR; rw [if_pos hbd]
      rw [e]; dsimp only
      refine Br.mk (fun h => bad ?_ hw) (fun h => by simp at h)
      unfold rdText; rw [if_pos hbd]; rw [show rd = ⟨rd.bs, rd.bad⟩ from rfl, hbd]
    · have hbd : rd.bad = false := by simpa using hbd
      cases hp : parse rd.bs with
      | none =>
        have e : nextR ⟨rd.bs, rd.bad⟩ = (0, false, 0) := by unfold nextR; simp [hp]
        rw [e]; dsimp only
        refine Br.mk (fun h => bad ?_ hw) (fun h => by simp at h)
        unfold rdText; rw [if_neg (by rw [hbd]; simp), hp]
      | some p =>
        obtain ⟨x, neg, k⟩ := p
        have e : nextR ⟨rd.bs, rd.bad⟩ = (x, neg, (k : Int)) := by unfold nextR; simp [hp, hbd]
        rw [e]; dsimp only
        obtain ⟨x0, x1, k0, k1, k2⟩ := parse_bd hb2 hp
        have e2 : rdText most rd = if neg = false ∧ 0 ≤ most ∧ x ≤ most ∧ x ≤ ((rd.bs.length : Int) - k) then (((rd.bs.drop k).take x.toNat), ⟨rd.bs.drop (k + x.toNat), false⟩) else ([], ⟨rd.bs, true⟩) := by
          unfold rdText; rw [if_neg (by rw [hbd]; simp), hp]
        refine Br.e (fun h => by omega) (fun _ => Br.mk (fun h => bad ?_ hw) (fun h => Br.d (fun h2 => bad ?_ hw) (fun h2 => ?_)))
        · rw [e2, if_neg (by rintro ⟨h3, _⟩; rw [h3] at h; cases h)]
        · rw [e2, if_neg (by rintro ⟨_, h3, _⟩; omega)]
        · rw [wrapU64 (x := most) (by omega) (by omega)]
          refine Br.d (fun h3 => bad ?_ hw) (fun h3 => ?_)
          · rw [e2, if_neg (by rintro ⟨_, _, h4, _⟩; omega)]
          · refine NilP.mk rfl ⟨s, At.own selfS (by exact ⟨rfl, trivial⟩), NilP.mk rfl ⟨n, At.own selfS (by exact ⟨rfl, trivial⟩), ?_⟩⟩
            have e3 : IntKind.u64.wrap (IntKind.i64.wrap (IntKind.i64.wrap ((s.len : Int) - (n : Int)) - (k : Int))) = (rd.bs.length : Int) - k := by
              rw [wrap64 (x := (s.len : Int) - (n : Int)) (by omega) (by omega), wrap64 (by omega) (by omega), wrapU64 (by omega) (by omega)]; omega
            rw [e3]
            refine Br.d (fun h4 => bad ?_ hw) (fun h4 => ⟨⟨x, k, hbd, by rw [h], by omega, by omega, by omega⟩, hw⟩)
            rw [e2, if_neg (by rintro ⟨_, _, _, h5⟩; omega)]
  clear bad hw
  rintro _ w ⟨⟨x, k, hbd, hp, hm0, hxm, hxl⟩, hw⟩
  obtain ⟨x0, x1, k0, k1, k2⟩ := parse_bd hb2 hp
  have e : nextR ⟨rd.bs, rd.bad⟩ = (x, false, (k : Int)) := by unfold nextR; simp [hp, hbd]
  have e2 : rdText most rd = (((rd.bs.drop k).take x.toNat), ⟨rd.bs.drop (k + x.toNat), false⟩) := by
    unfold rdText; rw [if_neg (by rw [hbd]; simp), hp]; dsimp only; rw [if_pos ⟨rfl, hm0, hxm, hxl⟩]
  rw [e, e2]
  dsimp only
  obtain ⟨m, rfl⟩ := Int.eq_ofNat_of_zero_le x0
  refine NilP.mk rfl ⟨n, At.own (eqS hw) (by exact ⟨rfl, trivial⟩), NilP.mk rfl ?_⟩
  have e3 : IntKind.i64.wrap ((n : Int) + (k : Int)) = ((n + k : Nat) : Int) := by rw [wrap64 (by omega) (by omega)]; omega
  have e4 : IntKind.i64.wrap (((n + k : Nat) : Int) + IntKind.i64.wrap (m : Int)) = ((n + k + m : Nat) : Int) := by rw [wrap64 (x := (m : Int)) (by omega) (by omega), wrap64 (by omega) (by omega)]; omega
  dsimp only
  rw [e3, e4]
  refine store_rule hw (by kernel_rfl) rfl (by simp [Value.cells]) fun w hw => ?_
  rw [hbd] at hw
  have hw := hw.re (pts r (rrCells s (n + k + m) false))
  refine drw_ruleT hw fun w hw => ?_
  refine NilP.mk rfl ⟨s, At.own selfS (by exact ⟨rfl, trivial⟩), NilP.mk rfl ⟨((n + k + m : Nat) : Int), At.own selfS (by exact ⟨rfl, trivial⟩), by omega, by omega, by omega, by omega, ?_⟩⟩
  rw [Int.toNat_natCast, Int.toNat_natCast, Int.toNat_natCast]
  refine new_rule hw fun b w hw => ?_
  have e5 : n + k + m - (n + k) = m := by omega
  rw [e5]
  have hro : SlR R.m ⟨(sdrop s (n + k)).a, m, (sdrop s (n + k)).cap⟩ (b8 ((rd.bs.drop k).take m)) := by
    have := (hs.b8drop (k := n + k) (by omega)).b8take (k := m) (by simp; omega)
    rw [← List.drop_drop, hd] at this
    exact this
  have hll : ((rd.bs.drop k).take m).length ≤ 1099511627776 := by simp; omega
  refine ⟨hw.absorb, ?_⟩
  have hw : Sat R (Own ⟨some ⟨b, 0, none⟩, 0, 0⟩ 5 (([] : List Int).map (Value.int .u8)) :: VC.tru :: pts r (rrCells s (n + k + m) false) :: Hs) w := own_lit hw
  refine appendRI elB8 (s := ⟨some ⟨b, 0, none⟩, 0, 0⟩) (t := ⟨(sdrop s (n + k)).a, m, (sdrop s (n + k)).cap⟩) (n := 1099511627776) Tryz.underlying42 hw (hro.ro (by simp; omega)) (by simp; omega) (by omega) (by omega) fun t w hw => ?_
  refine ⟨hw.absorb, t, rfl, ?_⟩
  rw [List.nil_append] at hw
  refine hw.cons fun _ h => Sat.rrd.2 ⟨n + k + m, ⟨by omega, ?_⟩, h.drop⟩
  show bs.drop (n + k + m) = rd.bs.drop (k + m)
  rw [← hd, List.drop_drop, Nat.add_assoc]
end Go.Proofs.YtfgbbckfikiomaaGreatDoor
/- Package booking: Decode. Condition: bounds on lengths. -/
namespace Go.Proofs.YtfgbbckfikiomaaGreatDoor
set_option linter.unusedVariables false
open Go Go.VC
open scoped Classical
variable {R : Cx} {Hs Rest : List HP} {w : World}
abbrev brC (b r : Nat) : HP := pts b (.cells [.pointer (some ⟨r, 0, none⟩)].toArray 126 (0, 0))
abbrev nilSl : Sl := ⟨none, 0, 0⟩
abbrev cmHead (k : Int) (p : ByteArray) (f c m t : Int) : Cm := ⟨k, p, f, c, m, t, 0, ByteArray.mk #[], 0, [], []⟩
abbrev cmNew (b : Nat) : HP := cmC b (cmHead 0 (ByteArray.mk #[]) 0 0 0 0) nilSl nilSl
theorem tru2 {A B : HP} (hw : Sat R (A :: B :: Hs) w) : Sat R [B, VC.tru] w := hw.swap.restTru2
theorem tru3 {A B C : HP} (hw : Sat R (C :: A :: B :: Hs) w) : Sat R [B, VC.tru] w := (hw.arr (Hs' := B :: C :: A :: Hs)).restTru2
section
variable (S : World → Prop) (J : Option Addr → World → Prop) (b4 b : Nat) (r : Option Addr)
end
section
variable {J : Option Addr → World → Prop} {b4 b r : Nat} {rd : Rd} {k f c m t : Int} {p : ByteArray}
end
end Go.Proofs.YtfgbbckfikiomaaGreatDoor
/- Package booking: Decode, the whole. Condition: bounds on lengths. -/
namespace Go.Proofs.YtfgbbckfikiomaaGreatDoor
set_option linter.unusedVariables false
open Go Go.VC
open scoped Classical
variable {R : Cx} {Hs Rest : List HP} {w : World}
theorem strRd_len {most : Int} {rd : Rd} : (strRd most rd).2.bs.length ≤ rd.bs.length := rdText_len.2
end Go.Proofs.YtfgbbckfikiomaaGreatDoor
/- Package booking: Read. Condition: bounds on lengths. -/
namespace Go.Proofs.YtfgbbckfikiomaaGreatDoor
set_option linter.unusedVariables false
open Go Go.VC
open scoped Classical
variable {R : Cx} {Hs Rest : List HP} {w : World}
abbrev rpHead (k : Int) (p : ByteArray) (s f c m t : Int) : Rp := ⟨k, p, s, f, c, m, t, [], []⟩
abbrev rpNew (b : Nat) : HP := rpC b (rpHead 0 (ByteArray.mk #[]) 0 0 0 0 0) nilSl nilSl
abbrev MI : Int := 1099511627776
theorem brn_spec {b r : Nat} {rd : Rd} (hb : Bytes rd.bs) (hw : Sat R (RdAt r rd :: brC b r :: Hs) w) :
    Gets Tryz.prog 77 #[.pointer (some ⟨b, 0, none⟩)] w fun v w' => v = .int .i64 (rdNum MI rd).1 ∧ Sat R (RdAt r (rdNum MI rd).2 :: brC b r :: Hs) w' := by
  apply call77
  have hw2 : Sat R (brC b r :: RdAt r rd :: Hs) w := hw.swap
  refine NilP.mk rfl ⟨some ⟨r, 0, none⟩, At.own (eqS hw2) (by exact ⟨rfl, trivial⟩), ?_⟩
  refine (bnum_spec (most := MI) hb (by decide) (by decide) hw).use ?_
  rintro _ w ⟨rfl, hw⟩
  exact ⟨_, rfl, rfl, hw⟩
theorem brs_spec {b r : Nat} {rd : Rd} (hb : Bytes rd.bs) (hl : rd.bs.length ≤ 1099511627776) (hw : Sat R (RdAt r rd :: brC b r :: Hs) w) :
    Gets Tryz.prog 82 #[.pointer (some ⟨b, 0, none⟩)] w fun v w' => v = .string (strRd 16 rd).1 ∧ Sat R (RdAt r (strRd 16 rd).2 :: brC b r :: Hs) w' := by
  apply call82
  have hw2 : Sat R (brC b r :: RdAt r rd :: Hs) w := hw.swap
  refine NilP.mk rfl ⟨some ⟨r, 0, none⟩, At.own (eqS hw2) (by exact ⟨rfl, trivial⟩), ?_⟩
  refine (bstr_spec (most := 16) hb hl (by omega) hw).use ?_
  rintro _ w ⟨rfl, hw⟩
  exact ⟨_, rfl, rfl, hw⟩
section
variable (S : World → Prop) (J : Option Addr → World → Prop) (b4 b : Nat) (r : Option Addr)
def rT7 (k : Int) (p : ByteArray) (s f c m t : Int) (w : World) : Prop :=
  ∃ w' : World, ((Instr.storeAt 31 (.pointer (some ⟨b, 0, none⟩)) (.agg #[.int .i64 k, .string p, .int .i64 s, .int .i64 f, .int .i64 c, .int .i64 m, .int .i64 t, .slice none 0 0, .slice none 0 0])).run Tryz.prog w = .ok () w') ∧ J (some ⟨b, 0, none⟩) w'
def rT6 (k : Int) (p : ByteArray) (s f c m : Int) (w : World) : Prop :=
  Calls Tryz.prog 77 #[.pointer (some ⟨b4, 0, none⟩)] w fun e w' => ∃ x : Int, (e = .returned (.int .i64 x)) ∧ S w' ∧ rT7 J b k p s f c m x w'
def rT5 (k : Int) (p : ByteArray) (s f c : Int) (w : World) : Prop :=
  Calls Tryz.prog 77 #[.pointer (some ⟨b4, 0, none⟩)] w fun e w' => ∃ x : Int, (e = .returned (.int .i64 x)) ∧ S w' ∧ rT6 S J b4 b k p s f c x w'
def rT4 (k : Int) (p : ByteArray) (s f : Int) (w : World) : Prop :=
  Calls Tryz.prog 77 #[.pointer (some ⟨b4, 0, none⟩)] w fun e w' => ∃ x : Int, (e = .returned (.int .i64 x)) ∧ S w' ∧ rT5 S J b4 b k p s f x w'
def rT3 (k : Int) (p : ByteArray) (s : Int) (w : World) : Prop :=
  Calls Tryz.prog 77 #[.pointer (some ⟨b4, 0, none⟩)] w fun e w' => ∃ x : Int, (e = .returned (.int .i64 x)) ∧ S w' ∧ rT4 S J b4 b k p s x w'
def rT2 (k : Int) (p : ByteArray) (w : World) : Prop :=
  Calls Tryz.prog 77 #[.pointer (some ⟨b4, 0, none⟩)] w fun e w' => ∃ x : Int, (e = .returned (.int .i64 x)) ∧ S w' ∧ rT3 S J b4 b k p x w'
def rT1 (k : Int) (w : World) : Prop :=
  Calls Tryz.prog 79 #[.agg #[.pointer r], .int .i64 16] w fun e w' => ∃ t : ByteArray, (e = .returned (.string t)) ∧ rT2 S J b4 b k t w'
def rT0 (w : World) : Prop :=
  Calls Tryz.prog 77 #[.pointer (some ⟨b4, 0, none⟩)] w fun e w' => ∃ t : Int, (e = .returned (.int .i64 t)) ∧ S w' ∧ rT1 S J b4 b r t w'
end
section
variable {J : Option Addr → World → Prop} {b4 b r : Nat} {rd : Rd} {k s f c m t : Int} {p : ByteArray}
theorem rT7_ok (hJ : ∀ {w}, Sat R (rpC b (rpHead k p s f c m t) nilSl nilSl :: RdAt r rd :: brC b4 r :: Hs) w → J (some ⟨b, 0, none⟩) w) (hw : Sat R (RdAt r rd :: brC b4 r :: rpNew b :: Hs) w) : rT7 J b k p s f c m t w := by
  have hw : Sat R (rpNew b :: RdAt r rd :: brC b4 r :: Hs) w := hw.arr
  refine store_rule hw (by kernel_rfl) rfl (by simp [Value.cells]) fun w hw => ?_
  exact hJ (hw.re (rpC b (rpHead k p s f c m t) nilSl nilSl))
theorem rT6_ok (hb : Bytes rd.bs) (hJ : ∀ {w}, Sat R (rpC b (rpHead k p s f c m (rdNum MI rd).1) nilSl nilSl :: RdAt r (rdNum MI rd).2 :: brC b4 r :: Hs) w → J (some ⟨b, 0, none⟩) w)
    (hw : Sat R (RdAt r rd :: brC b4 r :: rpNew b :: Hs) w) : rT6 (Sat R [brC b4 r, VC.tru]) J b4 b k p s f c m w := by
  refine (brn_spec hb hw).use ?_
  rintro _ w ⟨rfl, hw⟩
  exact ⟨_, rfl, tru2 hw, rT7_ok hJ hw⟩
theorem rT5_ok (hb : Bytes rd.bs) (hJ : ∀ {w}, Sat R (rpC b (rpHead k p s f c (rdNum MI rd).1 (rdNum MI (rdNum MI rd).2).1) nilSl nilSl :: RdAt r (rdNum MI (rdNum MI rd).2).2 :: brC b4 r :: Hs) w → J (some ⟨b, 0, none⟩) w)
    (hw : Sat R (RdAt r rd :: brC b4 r :: rpNew b :: Hs) w) : rT5 (Sat R [brC b4 r, VC.tru]) J b4 b k p s f c w := by
  refine (brn_spec hb hw).use ?_
  rintro _ w ⟨rfl, hw⟩
  exact ⟨_, rfl, tru2 hw, rT6_ok (rdNum_bd hb) hJ hw⟩
theorem rT4_ok (hb : Bytes rd.bs) (hJ : ∀ {w}, Sat R (rpC b (rpHead k p s f (rdNum MI rd).1 (rdNum MI (rdNum MI rd).2).1 (rdNum MI (rdNum MI (rdNum MI rd).2).2).1) nilSl nilSl :: RdAt r (rdNum MI (rdNum MI (rdNum MI rd).2).2).2 :: brC b4 r :: Hs) w → J (some ⟨b, 0, none⟩) w)
    (hw : Sat R (RdAt r rd :: brC b4 r :: rpNew b :: Hs) w) : rT4 (Sat R [brC b4 r, VC.tru]) J b4 b k p s f w := by
  refine (brn_spec hb hw).use ?_
  rintro _ w ⟨rfl, hw⟩
  exact ⟨_, rfl, tru2 hw, rT5_ok (rdNum_bd hb) hJ hw⟩
theorem rT3_ok (hb : Bytes rd.bs) (hJ : ∀ {w}, Sat R (rpC b (rpHead k p s (rdNum MI rd).1 (rdNum MI (rdNum MI rd).2).1 (rdNum MI (rdNum MI (rdNum MI rd).2).2).1 (rdNum MI (rdNum MI (rdNum MI (rdNum MI rd).2).2).2).1) nilSl nilSl :: RdAt r (rdNum MI (rdNum MI (rdNum MI (rdNum MI rd).2).2).2).2 :: brC b4 r :: Hs) w → J (some ⟨b, 0, none⟩) w)
    (hw : Sat R (RdAt r rd :: brC b4 r :: rpNew b :: Hs) w) : rT3 (Sat R [brC b4 r, VC.tru]) J b4 b k p s w := by
  refine (brn_spec hb hw).use ?_
  rintro _ w ⟨rfl, hw⟩
  exact ⟨_, rfl, tru2 hw, rT4_ok (rdNum_bd hb) hJ hw⟩
theorem rT2_ok (hb : Bytes rd.bs) (hJ : ∀ {w}, Sat R (rpC b (rpHead k p (rdNum MI rd).1 (rdNum MI (rdNum MI rd).2).1 (rdNum MI (rdNum MI (rdNum MI rd).2).2).1 (rdNum MI (rdNum MI (rdNum MI (rdNum MI rd).2).2).2).1 (rdNum MI (rdNum MI (rdNum MI (rdNum MI (rdNum MI rd).2).2).2).2).1) nilSl nilSl :: RdAt r (rdNum MI (rdNum MI (rdNum MI (rdNum MI (rdNum MI rd).2).2).2).2).2 :: brC b4 r :: Hs) w → J (some ⟨b, 0, none⟩) w)
    (hw : Sat R (RdAt r rd :: brC b4 r :: rpNew b :: Hs) w) : rT2 (Sat R [brC b4 r, VC.tru]) J b4 b k p w := by
  refine (brn_spec hb hw).use ?_
  rintro _ w ⟨rfl, hw⟩
  exact ⟨_, rfl, tru2 hw, rT3_ok (rdNum_bd hb) hJ hw⟩
def hd5 (rd : Rd) : (Int × Int × Int × Int × Int) × Rd :=
  let s := rdNum MI rd
  let f := rdNum MI s.2
  let c := rdNum MI f.2
  let m := rdNum MI c.2
  let t := rdNum MI m.2
  ((s.1, f.1, c.1, m.1, t.1), t.2)
abbrev JR (R : Cx) (Hs : List HP) (b4 r : Nat) (k : Int) (p : ByteArray) (x : (Int × Int × Int × Int × Int) × Rd) (c6 : Option Addr) (w : World) : Prop :=
  ∃ b, c6 = some ⟨b, 0, none⟩ ∧ Sat R (rpC b (rpHead k p x.1.1 x.1.2.1 x.1.2.2.1 x.1.2.2.2.1 x.1.2.2.2.2) nilSl nilSl :: RdAt r x.2 :: brC b4 r :: Hs) w
abbrev rpH5 (k : Int) (p : ByteArray) (x : Int × Int × Int × Int × Int) : Rp := rpHead k p x.1 x.2.1 x.2.2.1 x.2.2.2.1 x.2.2.2.2
theorem rT1_ok (hb : Bytes rd.bs) (hl : rd.bs.length ≤ 1099511627776) (hJ : ∀ {w}, Sat R (rpC b (rpH5 k (strRd 16 rd).1 (hd5 (strRd 16 rd).2).1) nilSl nilSl :: RdAt r (hd5 (strRd 16 rd).2).2 :: brC b4 r :: Hs) w → J (some ⟨b, 0, none⟩) w)
    (hw : Sat R (RdAt r rd :: brC b4 r :: rpNew b :: Hs) w) : rT1 (Sat R [brC b4 r, VC.tru]) J b4 b (some ⟨r, 0, none⟩) k w := by
  refine (bstr_spec (most := 16) hb hl (by omega) hw).use ?_
  rintro _ w ⟨rfl, hw⟩
  exact ⟨_, rfl, rT2_ok (strRd_bd hb) hJ hw⟩
theorem rT0_ok (hb : Bytes rd.bs) (hl : rd.bs.length ≤ 1099511627776) (hJ : ∀ {w}, Sat R (rpC b (rpH5 (rdNum MI rd).1 (strRd 16 (rdNum MI rd).2).1 (hd5 (strRd 16 (rdNum MI rd).2).2).1) nilSl nilSl :: RdAt r (hd5 (strRd 16 (rdNum MI rd).2).2).2 :: brC b4 r :: Hs) w → J (some ⟨b, 0, none⟩) w)
    (hw : Sat R (RdAt r rd :: brC b4 r :: rpNew b :: Hs) w) : rT0 (Sat R [brC b4 r, VC.tru]) J b4 b (some ⟨r, 0, none⟩) w := by
  refine (brn_spec hb hw).use ?_
  rintro _ w ⟨rfl, hw⟩
  exact ⟨_, rfl, tru2 hw, rT1_ok (rdNum_bd hb) (by have := rdNum_len (most := MI) (rd := rd); omega) hJ hw⟩
end
end Go.Proofs.YtfgbbckfikiomaaGreatDoor
/- Package booking: Read, the whole. Condition: bounds on lengths. -/
namespace Go.Proofs.YtfgbbckfikiomaaGreatDoor
set_option linter.unusedVariables false
open Go Go.VC
open scoped Classical
variable {R : Cx} {Hs Rest : List HP} {w : World}
def zeroR : Rp := rpHead 0 (ByteArray.mk #[]) 0 0 0 0 0
def rpDec (bs : List Int) : Rp × Int := if rdWhole (rpRd ⟨bs, false⟩).2 = true then ((rpRd ⟨bs, false⟩).1, 0) else (zeroR, 6)
theorem hd5_bd {rd : Rd} (hb : Bytes rd.bs) : Bytes (hd5 rd).2.bs := rdNum_bd (rdNum_bd (rdNum_bd (rdNum_bd (rdNum_bd hb))))
theorem hd5_len {rd : Rd} : (hd5 rd).2.bs.length ≤ rd.bs.length := Nat.le_trans rdNum_len (Nat.le_trans rdNum_len (Nat.le_trans rdNum_len (Nat.le_trans rdNum_len rdNum_len)))
theorem rpRd_hd (r : Rd) : rpRd r =
  let k := rdNum MI r
  let p := strRd 16 k.2
  let h := hd5 p.2
  let n := rdNum 8 h.2
  let g := rdEach (rdNum MI) n.1.toNat n.2
  let q := rdNum 600 g.2
  let x := rdEach (strRd 16) q.1.toNat q.2
  (⟨k.1, p.1, h.1.1, h.1.2.1, h.1.2.2.1, h.1.2.2.2.1, h.1.2.2.2.2, g.1, x.1⟩, x.2) := rfl
set_option maxHeartbeats 1000000 in
theorem bread_spec {s : Sl} {bs : List Int} (hb : Bytes bs) (hl : bs.length ≤ 1099511627776) (hs : Ro R s (b8 bs)) (hw : Sat R Hs w) :
    Gets Tryz.prog 26 #[.slice s.a s.len s.cap] w fun v w' => ∃ sl sb : Sl, v = .tuple #[.agg (rpV (rpDec bs).1 sl sb).toArray, .int .i64 (rpDec bs).2] ∧ Sat R (Own sl 3 (intsI (rpDec bs).1.left) :: Own sb 9 (strs (rpDec bs).1.labs) :: Hs) w' := by
  apply call26
  have b0 : Bytes (⟨bs, false⟩ : Rd).bs := hb
  have l0 : (⟨bs, false⟩ : Rd).bs.length ≤ 1099511627776 := hl
  have hcm := rpRd_hd ⟨bs, false⟩
  obtain ⟨rd0, e0⟩ : ∃ rd : Rd, rd = ⟨bs, false⟩ := ⟨_, rfl⟩
  rw [← e0] at b0 l0 hcm
  have b1 := rdNum_bd (most := MI) b0
  have l1 : (rdNum MI rd0).2.bs.length ≤ 1099511627776 := Nat.le_trans rdNum_len l0
  refine new_rule hw fun b2 w hw => ?_
  have hw : Sat R (rpNew b2 :: Hs) w := hw
  refine (fnew_spec hs hl hw).use ?_
  clear hw
  rintro _ w ⟨r, rfl, hw⟩
  refine ⟨_, rfl, ?_⟩
  rw [← e0] at hw
  refine new_rule hw fun b4 w hw => ?_
  refine store_rule hw (by kernel_rfl) rfl (by simp [Value.cells]) fun w hw => ?_
  have hw : Sat R (RdAt r rd0 :: brC b4 r :: rpNew b2 :: Hs) w := hw.re (brC b4 r) |>.swap
  refine ⟨JR R (rpNew b2 :: Hs) b4 r (rdNum MI rd0).1 (strRd 16 (rdNum MI rd0).2).1 (hd5 (strRd 16 (rdNum MI rd0).2).2), ?_, ?_⟩
  · refine drw_rule' (Sat R [brC b4 r, VC.tru]) hw (fun w hw => tru2 hw) fun w hw => ?_
    clear hcm
    refine ⟨_, At.own (fun _ h => h) (by exact ⟨rfl, trivial⟩), ?_⟩
    refine ⟨?_, new_rule hw fun b w hw => ⟨tru3 hw, rT0_ok b0 l0 (fun hw => ⟨b, rfl, hw⟩) (hw.arr (Hs' := RdAt r rd0 :: brC b4 r :: rpNew b :: rpNew b2 :: Hs))⟩⟩
    refine (brn_spec b0 hw).use ?_
    clear hw
    rintro _ w ⟨rfl, hw⟩
    refine ⟨_, rfl, tru2 hw, ?_⟩
    generalize (rdNum MI rd0).1 = k at *
    generalize (rdNum MI rd0).2 = rd1 at *
    refine ⟨?_, new_rule hw fun b w hw => ⟨tru3 hw, rT1_ok b1 l1 (fun hw => ⟨b, rfl, hw⟩) (hw.arr (Hs' := RdAt r rd1 :: brC b4 r :: rpNew b :: rpNew b2 :: Hs))⟩⟩
    have c2 := strRd_bd (most := 16) b1
    refine (bstr_spec (most := 16) b1 l1 (by omega) hw).use ?_
    clear hw
    rintro _ w ⟨rfl, hw⟩
    refine ⟨_, rfl, ?_⟩
    generalize (strRd 16 rd1).1 = p at *
    generalize (strRd 16 rd1).2 = rd2 at *
    refine ⟨?_, new_rule hw fun b w hw => ⟨tru3 hw, rT2_ok c2 (fun hw => ⟨b, rfl, hw⟩) (hw.arr (Hs' := RdAt r _ :: brC b4 r :: rpNew b :: rpNew b2 :: Hs))⟩⟩
    have c3 := rdNum_bd (most := MI) c2
    refine (brn_spec c2 hw).use ?_
    clear hw
    rintro _ w ⟨rfl, hw⟩
    refine ⟨_, rfl, tru2 hw, ?_⟩
    refine ⟨?_, new_rule hw fun b w hw => ⟨tru3 hw, rT3_ok c3 (fun hw => ⟨b, rfl, hw⟩) (hw.arr (Hs' := RdAt r _ :: brC b4 r :: rpNew b :: rpNew b2 :: Hs))⟩⟩
    have c4 := rdNum_bd (most := MI) c3
    refine (brn_spec c3 hw).use ?_
    clear hw
    rintro _ w ⟨rfl, hw⟩
    refine ⟨_, rfl, tru2 hw, ?_⟩
    refine ⟨?_, new_rule hw fun b w hw => ⟨tru3 hw, rT4_ok c4 (fun hw => ⟨b, rfl, hw⟩) (hw.arr (Hs' := RdAt r _ :: brC b4 r :: rpNew b :: rpNew b2 :: Hs))⟩⟩
    have c5 := rdNum_bd (most := MI) c4
    refine (brn_spec c4 hw).use ?_
    clear hw
    rintro _ w ⟨rfl, hw⟩
    refine ⟨_, rfl, tru2 hw, ?_⟩
    refine ⟨?_, new_rule hw fun b w hw => ⟨tru3 hw, rT5_ok c5 (fun hw => ⟨b, rfl, hw⟩) (hw.arr (Hs' := RdAt r _ :: brC b4 r :: rpNew b :: rpNew b2 :: Hs))⟩⟩
    have c6 := rdNum_bd (most := MI) c5
    refine (brn_spec c5 hw).use ?_
    clear hw
    rintro _ w ⟨rfl, hw⟩
    refine ⟨_, rfl, tru2 hw, ?_⟩
    refine ⟨?_, new_rule hw fun b w hw => ⟨tru3 hw, rT6_ok c6 (fun hw => ⟨b, rfl, hw⟩) (hw.arr (Hs' := RdAt r _ :: brC b4 r :: rpNew b :: rpNew b2 :: Hs))⟩⟩
    have c7 := rdNum_bd (most := MI) c6
    refine (brn_spec c6 hw).use ?_
    clear hw
    rintro _ w ⟨rfl, hw⟩
    refine ⟨_, rfl, tru2 hw, ?_⟩
    have hw : Sat R (RdAt r (hd5 rd2).2 :: brC b4 r :: rpNew b2 :: Hs) w := hw
    exact new_rule hw fun b w hw => ⟨tru3 hw, rT7_ok (fun hw => ⟨b, rfl, hw⟩) (hw.arr (Hs' := RdAt r _ :: brC b4 r :: rpNew b :: rpNew b2 :: Hs))⟩
  clear hw
  obtain ⟨k, rd1, e1⟩ : ∃ y rd, rdNum MI rd0 = (y, rd) := ⟨_, _, rfl⟩
  rw [e1] at b1 l1 ⊢
  dsimp only at b1 l1 ⊢
  have c2 := strRd_bd (most := 16) b1
  have l2 : (strRd 16 rd1).2.bs.length ≤ 1099511627776 := Nat.le_trans strRd_len l1
  obtain ⟨p, rd2, e2⟩ : ∃ y rd, strRd 16 rd1 = (y, rd) := ⟨_, _, rfl⟩
  rw [e2] at c2 l2 ⊢
  dsimp only at c2 l2 ⊢
  have b3 := hd5_bd c2
  have l3 : (hd5 rd2).2.bs.length ≤ 1099511627776 := Nat.le_trans hd5_len l2
  obtain ⟨⟨st, f, c, m, t⟩, rd3, e3⟩ : ∃ y rd, hd5 rd2 = (y, rd) := ⟨_, _, rfl⟩
  rw [e3] at b3 l3 ⊢
  dsimp only at b3 l3 ⊢
  rintro _ _ w ⟨b, rfl, hw⟩
  have hw : Sat R (RdAt r rd3 :: brC b4 r :: rpC b (rpHead k p st f c m t) nilSl nilSl :: rpNew b2 :: Hs) w := hw.arr
  have b7 := rdNum_bd (most := 8) b3
  have v7 := rdNum_val (most := 8) b3 (by omega)
  have l7 : (rdNum 8 rd3).2.bs.length ≤ 1099511627776 := Nat.le_trans rdNum_len l3
  obtain ⟨n7, rd7, e7⟩ : ∃ y rd, rdNum 8 rd3 = (y, rd) := ⟨_, _, rfl⟩
  refine ⟨some ⟨r, 0, none⟩, At.own (eqS hw) (by exact ⟨rfl, trivial⟩), ?_⟩
  refine (bnum_spec (most := 8) b3 (by omega) (by omega) hw).use ?_
  clear hw
  rintro _ w ⟨rfl, hw⟩
  rw [e7] at b7 v7 l7 hw ⊢
  dsimp only at b7 v7 l7 hw ⊢
  refine ⟨_, rfl, ?_⟩
  obtain ⟨n, rfl⟩ := Int.eq_ofNat_of_zero_le v7.1
  have b8' := (rdEach_inv (one := rdNum MI) (P := fun r => Bytes r.bs ∧ r.bs.length ≤ 1099511627776) (Q := fun _ => True) (fun r hr => ⟨trivial, rdNum_bd hr.1, Nat.le_trans rdNum_len hr.2⟩) n ⟨b7, l7⟩).2
  refine (timesI_spec (one := rdNum MI) (I := fun rd => Bytes rd.bs) (fun rd h => rdNum_bd h) (by omega) b7 (fun T rd w hI hw => CalW.mk (by kernel_rfl) ((brn_spec hI (hw.arr (Hs' := RdAt r rd :: brC b4 r :: T :: rpC b (rpHead k p st f c m t) nilSl nilSl :: rpNew b2 :: Hs))).use fun v w h => ⟨by rw [h.1], h.2.arr⟩)) hw).use ?_
  clear hw
  rintro _ w ⟨sg, rfl, hw⟩
  have gl := rdEach_len (rdNum MI) n rd7
  obtain ⟨gs, rd8, e8⟩ : ∃ y rd, rdEach (rdNum MI) n rd7 = (y, rd) := ⟨_, _, rfl⟩
  rw [e8] at gl b8' hw
  dsimp only at gl b8' hw
  obtain ⟨b8'', l8⟩ := b8'
  refine ⟨sg, rfl, NilP.mk rfl ?_⟩
  refine store_rule hw (by kernel_rfl) rfl (by simp [Value.cells]) fun w hw => ?_
  have hw : Sat R (RdAt r rd8 :: brC b4 r :: Own sg 3 (intsI gs) :: rpC b { rpHead k p st f c m t with left := gs } sg nilSl :: rpNew b2 :: Hs) w := (hw.re (rpC b { rpHead k p st f c m t with left := gs } sg nilSl)).arr
  have b9 := rdNum_bd (most := 600) b8''
  have v9 := rdNum_val (most := 600) b8'' (by omega)
  have l9 : (rdNum 600 rd8).2.bs.length ≤ 1099511627776 := Nat.le_trans rdNum_len l8
  obtain ⟨n9, rd9, e9⟩ : ∃ y rd, rdNum 600 rd8 = (y, rd) := ⟨_, _, rfl⟩
  refine ⟨some ⟨r, 0, none⟩, At.own (eqS hw) (by exact ⟨rfl, trivial⟩), ?_⟩
  refine (bnum_spec (most := 600) b8'' (by omega) (by omega) hw).use ?_
  clear hw
  rintro _ w ⟨rfl, hw⟩
  rw [e9] at b9 v9 l9 hw ⊢
  dsimp only at b9 v9 l9 hw ⊢
  refine ⟨_, rfl, ?_⟩
  obtain ⟨n', rfl⟩ := Int.eq_ofNat_of_zero_le v9.1
  refine (timesS_spec (one := strRd 16) (I := fun rd => Bytes rd.bs ∧ rd.bs.length ≤ 1099511627776) (fun rd h => ⟨strRd_bd h.1, Nat.le_trans strRd_len h.2⟩) (by omega) ⟨b9, l9⟩ (fun T rd w hI hw => CalW.mk (by kernel_rfl) ((brs_spec hI.1 hI.2 (hw.arr (Hs' := RdAt r rd :: brC b4 r :: T :: Own sg 3 (intsI gs) :: rpC b { rpHead k p st f c m t with left := gs } sg nilSl :: rpNew b2 :: Hs))).use fun v w h => ⟨by rw [h.1], h.2.arr⟩)) hw).use ?_
  clear hw
  rintro _ w ⟨sp, rfl, hw⟩
  obtain ⟨ps, rd10, e10⟩ : ∃ y rd, rdEach (strRd 16) n' rd9 = (y, rd) := ⟨_, _, rfl⟩
  rw [e10] at hw
  dsimp only at hw
  have hC : rpRd rd0 = ({ rpHead k p st f c m t with left := gs, labs := ps }, rd10) := by
    rw [hcm]
    simp only [e1, e2, e3, e7, e8, e9, e10, Int.toNat_natCast]
  clear hcm
  rw [e0] at hC
  have hdec : rpDec bs = if rdWhole rd10 = true then ({ rpHead k p st f c m t with left := gs, labs := ps }, 0) else (zeroR, 6) := by unfold rpDec; rw [hC]
  obtain ⟨C, eC⟩ : ∃ C : Rp, C = { rpHead k p st f c m t with left := gs, labs := ps } := ⟨_, rfl⟩
  refine ⟨sp, rfl, NilP.mk rfl ?_⟩
  refine store_rule hw (by kernel_rfl) rfl (by simp [Value.cells]) fun w hw => ?_
  have hw := hw.re (rpC b { rpHead k p st f c m t with left := gs, labs := ps } sg sp)
  rw [← eC] at hdec hw
  have eg : C.left = gs := by rw [eC]
  have ep : C.labs = ps := by rw [eC]
  rw [← eg] at hw
  rw [← ep] at hw
  clear eC hC eg ep e1 e2 e3 e7 e8 e9 e10 b0 b1 c2 b3 b7 b8'' b9 l0 l1 l2 l3 l7 l8 l9
  have hw : Sat R (RdAt r rd10 :: brC b4 r :: rpC b C sg sp :: Own sp 9 (strs C.labs) :: Own sg 3 (intsI C.left) :: rpNew b2 :: Hs) w := hw.arr
  refine ⟨some ⟨r, 0, none⟩, At.own (eqS hw) (by exact ⟨rfl, trivial⟩), ?_⟩
  refine (whole_spec hw).use ?_
  clear hw
  rintro _ w ⟨rfl, hw⟩
  refine ⟨_, rfl, Br.nb (fun h => ?_) (fun h => ?_)⟩
  · have hw : Sat R (rpNew b2 :: Hs) w := hw.drop.drop.drop.drop.drop
    refine store_rule hw (by kernel_rfl) rfl (by simp [Value.cells]) fun w hw => ?_
    have hw := hw.re (rpNew b2)
    refine ⟨_, _, _, _, _, _, _, nilSl, nilSl, At.own (eqS hw) (by exact ⟨rfl, rfl, rfl, rfl, rfl, rfl, rfl, rfl, rfl, trivial⟩), ?_⟩
    rw [hdec, if_neg (by rw [h]; simp)]
    exact ⟨nilSl, nilSl, rfl, Own.nil (Own.nil hw.drop)⟩
  refine NilP.mk rfl ⟨C.code, C.pnr, C.state, C.flt, C.cls, C.many, C.time, sg, sp, At.own (eqS hw) (by exact ⟨rfl, rfl, rfl, rfl, rfl, rfl, rfl, rfl, rfl, trivial⟩), ?_⟩
  have hw : Sat R (rpNew b2 :: RdAt r rd10 :: brC b4 r :: rpC b C sg sp :: Own sp 9 (strs C.labs) :: Own sg 3 (intsI C.left) :: Hs) w := hw.arr
  refine store_rule hw (by kernel_rfl) rfl (by simp [Value.cells]) fun w hw => ?_
  have hw := hw.re (rpC b2 C sg sp)
  refine ⟨C.code, C.pnr, C.state, C.flt, C.cls, C.many, C.time, sg, sp, At.own (eqS hw) (by exact ⟨rfl, rfl, rfl, rfl, rfl, rfl, rfl, rfl, rfl, trivial⟩), ?_⟩
  rw [hdec, if_pos h]
  exact ⟨sg, sp, rfl, (hw.drop.arr (Hs' := Own sg 3 (intsI C.left) :: Own sp 9 (strs C.labs) :: RdAt r rd10 :: brC b4 r :: rpC b C sg sp :: Hs)).cons fun _ h => h.cons fun _ h => h.drop.drop.drop⟩
end Go.Proofs.YtfgbbckfikiomaaGreatDoor
/- Reference 18: whether a command may be; steps of its codes. Condition: bounds on lengths. -/
namespace Go.Proofs.YtfgbbckfikiomaaGreatDoor
set_option linter.unusedVariables false
open Go Go.VC
open scoped Classical
variable {R : Cx} {Hs Rest : List HP} {w : World}
theorem app8 {s t : Sl} {a b : List Int} {K : Sl → World → Prop} (hl : a.length + b.length ≤ 1099511627776) (hw : Sat R (Own t 5 (b8 b) :: Own s 5 (b8 a) :: Hs) w)
    (k : ∀ s2 w', Sat R (Own s2 5 (b8 (a ++ b)) :: Hs) w' → K s2 w') :
    ∃ w_1 : World, ∃ t2 : Sl, ((Builtin.append_ #[ 42, 42 ] 42 #[.slice s.a s.len s.cap, .slice t.a t.len t.cap]).run Tryz.prog w = .ok (.slice t2.a t2.len t2.cap) w_1) ∧ K t2 w_1 :=
  appendOO elB8 (s := s) (n := 1099511627776) Tryz.underlying42 hw.swap (by omega) (by omega) (by omega) fun s2 w hw => k s2 w (hw.swap.drop)
theorem rlit_spec {b n : Nat} {xs : List Int} (hn : n = xs.length) (hxs : ∀ x ∈ xs, x < 9223372036854775808) (hl : 9 * xs.length ≤ 1099511627776) (hw : Sat R (pts b (.cells (intsI xs).toArray 3 (0, 0)) :: Hs) w) :
    Gets Tryz.prog 71 #[.slice (some ⟨b, 0, none⟩) n n] w fun v w' => ∃ t : Sl, v = .slice t.a t.len t.cap ∧ Sat R (Own t 5 (b8 (numsB (xs.map nn))) :: Hs) w' := by
  have hw : Sat R (Own ⟨some ⟨b, 0, none⟩, n, n⟩ 3 (intsI xs) :: Hs) w := own_lit hw (by rw [List.length_map]; exact hn)
  obtain ⟨R', hr, _, hw, back⟩ := Own.lendI hw (by omega)
  refine (r18nums_spec hxs hl hr hw).use ?_
  rintro _ w ⟨t, rfl, hw⟩
  exact ⟨_, rfl, t, rfl, (back hw).swap.cons fun _ h => h.drop⟩
theorem rstr_rule {s : ByteArray} {K : Sl → World → Prop} (hl : s.size ≤ 1099511627776) (hw : Sat R Hs w) (k : ∀ t w', Sat R (Own t 5 (b8 (strB s)) :: Hs) w' → K t w') :
    ∃ w_1 : World, ∃ t : Sl, ((convert 9 42 (.string s)).run Tryz.prog w = .ok (.slice t.a t.len t.cap) w_1) ∧
      Calls Tryz.prog 72 #[.slice t.a t.len t.cap] w_1 fun e w_2 => ∃ t2 : Sl, (e = .returned (.slice t2.a t2.len t2.cap)) ∧ K t2 w_2 := by
  refine convB_rule Tryz.underlying9 Tryz.underlying42 Tryz.underlying5 hw fun t w hw => ?_
  have hsz := bytesL_len s
  obtain ⟨R', hr, _, hw, back⟩ := Own.lend hw (by rw [List.length_map]; omega)
  refine (rtextB_spec hr (by omega) hw).use ?_
  rintro _ w ⟨t2, rfl, hw⟩
  exact ⟨t2, rfl, k _ _ ((back hw).swap.cons fun _ h => h.drop)⟩
end Go.Proofs.YtfgbbckfikiomaaGreatDoor
/- Reference 18: Encode, Answer. Condition: bounds on lengths; words. -/
namespace Go.Proofs.YtfgbbckfikiomaaGreatDoor
set_option linter.unusedVariables false
open Go Go.VC
open scoped Classical
variable {R : Cx} {Hs Rest : List HP} {w : World}
theorem nn6 {a b c d e f : Int} (hf : 0 ≤ f) : numsB ([a, b, c, d, e, f].map nn) = numsB [nn a] ++ (numsB [nn b] ++ (numsB [nn c] ++ (numsB [nn d] ++ (numsB [nn e] ++ numsB [f])))) := by
  show numsB [nn a, nn b, nn c, nn d, nn e, nn f] = _
  rw [nn_id hf, numsB_sp (nn a), numsB_sp (nn b), numsB_sp (nn c), numsB_sp (nn d), numsB_sp (nn e)]
set_option maxHeartbeats 1000000 in
theorem r18answer_spec {r : Rp} {sl sb : Sl} (hi : RpW r) (hg : RoI R sl r.left) (hp : SlR R.m sb (r.labs.map Value.string)) (hw : Sat R Hs w) :
    Gets Tryz.prog 28 #[.agg #[.int .i64 r.code, .string r.pnr, .int .i64 r.state, .int .i64 r.flt, .int .i64 r.cls, .int .i64 r.many, .int .i64 r.time, .slice sl.a sl.len sl.cap, .slice sb.a sb.len sb.cap]] w fun v w' =>
      ∃ t : Sl, v = .slice t.a t.len t.cap ∧ Sat R (Own t 5 (b8 (rpB r)) :: Hs) w' := by
  have hplen : sb.len = r.labs.length := by have := hp.len; simpa using this
  have hglen := hg.len
  have i1 := hi.ints
  have i2 := hi.pnr
  have i3 := hi.ll
  have i4 := hi.bl
  have q : ∀ x ∈ [r.code, r.state, r.flt, r.cls, r.many, r.time] ++ r.left, 0 ≤ nn x ∧ nn x < 18446744073709551616 := fun x hx => by have := nn_bd (i1 x hx); omega
  have l1 := nums1_len (q r.code (by simp))
  have l2 := strB_len (s := r.pnr) i2
  have l3 := nums1_len (q r.state (by simp))
  have l4 := nums1_len (q r.flt (by simp))
  have l5 := nums1_len (q r.cls (by simp))
  have l6 := nums1_len (q r.many (by simp))
  have l7 := nums1_len (q r.time (by simp))
  have l10 := nums1_len (x := (r.left.length : Int)) (by omega)
  have l11 := numsB_len (l := r.left.map nn) fun y hy => by obtain ⟨x, hx, rfl⟩ := List.mem_map.1 hy; exact q x (by simp [hx])
  rw [List.length_map] at l11
  have l12 := nums1_len (x := (r.labs.length : Int)) (by omega)
  apply call28
  refine new_rule hw fun b w hw => ?_
  have hw : Sat R (rpC b r sl sb :: Hs) w := hw
  refine ⟨r.code, At.own (eqS hw) (by exact ⟨rfl, trivial⟩), ?_⟩
  refine new_rule hw fun b15 w hw => ?_
  refine (rlit_spec (xs := [r.code]) rfl (fun x hx => i1 x (by rw [List.mem_singleton.1 hx]; simp)) (by simp) hw).use ?_
  clear hw
  rintro _ w ⟨t1, rfl, hw⟩
  refine ⟨t1, rfl, ?_⟩
  rw [show [r.code].map nn = [nn r.code] from rfl] at hw
  refine ⟨r.pnr, At.own (eqS hw) (by exact ⟨rfl, trivial⟩), ?_⟩
  refine rstr_rule (by omega) hw fun t2 w hw => ?_
  refine app8 (by omega) hw fun t1 w hw => ?_
  refine ⟨r.state, At.own (eqS hw) (by exact ⟨rfl, trivial⟩), r.flt, At.own (eqS hw) (by exact ⟨rfl, trivial⟩), r.cls, At.own (eqS hw) (by exact ⟨rfl, trivial⟩), r.many, At.own (eqS hw) (by exact ⟨rfl, trivial⟩), r.time, At.own (eqS hw) (by exact ⟨rfl, trivial⟩), sl, At.own (eqS hw) (by exact ⟨rfl, trivial⟩), ?_⟩
  refine new_rule hw fun b31 w hw => ?_
  refine (rlit_spec (xs := [r.state, r.flt, r.cls, r.many, r.time, (sl.len : Int)]) rfl (fun x hx => by
    simp only [List.mem_cons, List.not_mem_nil, or_false] at hx
    rcases hx with h | h | h | h | h | h
    · exact i1 x (by simp [h])
    · exact i1 x (by simp [h])
    · exact i1 x (by simp [h])
    · exact i1 x (by simp [h])
    · exact i1 x (by simp [h])
    · omega) (by simp) hw).use ?_
  clear hw
  rintro _ w ⟨t2, rfl, hw⟩
  refine ⟨t2, rfl, ?_⟩
  rw [nn6 (by omega), show ((sl.len : Nat) : Int) = (r.left.length : Int) by omega] at hw
  refine app8 (by simp only [List.length_append]; omega) hw fun t1 w hw => ?_
  refine ⟨sl, At.own (eqS hw) (by exact ⟨rfl, trivial⟩), ?_⟩
  refine (r18nums_spec (xs := r.left) (fun y hy => i1 y (by simp [hy])) (by omega) hg hw).use ?_
  clear hw
  rintro _ w ⟨t2, rfl, hw⟩
  refine ⟨t2, rfl, ?_⟩
  refine app8 (by simp only [List.length_append]; omega) hw fun t1 w hw => ?_
  refine ⟨sb, At.own (eqS hw) (by exact ⟨rfl, trivial⟩), ?_⟩
  refine new_rule hw fun b57 w hw => ?_
  refine (rlit_spec (xs := [(sb.len : Int)]) rfl (by simp; omega) (by simp) hw).use ?_
  clear hw
  rintro _ w ⟨t2, rfl, hw⟩
  refine ⟨t2, rfl, ?_⟩
  rw [nn1 (by omega), show ((sb.len : Nat) : Int) = (r.labs.length : Int) by omega] at hw
  refine app8 (by simp only [List.length_append]; omega) hw fun t1 w hw => ?_
  obtain ⟨B, hBl, hB, hw⟩ : ∃ B : List Int, B.length ≤ 2000000 ∧ B ++ (r.labs.map strB).flatten = rpB r ∧ Sat R (Own t1 5 (b8 B) :: rpC b r sl sb :: Hs) w :=
    ⟨_, by simp only [List.length_append]; omega, by unfold rpB; simp only [List.append_assoc], hw⟩
  refine ⟨fun out i w => ∃ k : Nat, i = k ∧ k ≤ r.labs.length ∧ Sat R (Own out 5 (b8 (B ++ ((r.labs.take k).map strB).flatten)) :: rpC b r sl sb :: Hs) w, fun _ i _ => r.labs.length - i.toNat, ⟨0, rfl, by omega, by simpa using hw⟩, ?_⟩
  clear hw
  rintro _ out _ w ⟨k, rfl, hk, hw⟩
  refine ⟨sb, At.own (eqS hw) (by exact ⟨rfl, trivial⟩), ?_⟩
  refine Br.d (fun h => ?_) (fun h => ?_)
  · have hkx : k < r.labs.length := by omega
    have hfl := flat_len (l := r.labs.take k) (code := strB) (m := 100009) fun x hx => by have := hi.labs x (List.mem_of_mem_take hx); have := strB_len this; omega
    rw [List.length_take] at hfl
    have hsk := hi.labs _ (List.getElem_mem hkx)
    have hsl := strB_len hsk
    refine ⟨sb, At.own (eqS hw) (by exact ⟨rfl, trivial⟩), ?_⟩
    refine Ro.ixStr (hp.ro (by rw [List.length_map]; omega)) (eqS hw) k rfl hkx ?_
    refine rstr_rule (by omega) hw fun t2 w hw => ?_
    refine app8 (by rw [List.length_append]; omega) hw fun t1 w hw => ?_
    rw [wrap64 (by omega) (by omega)]
    refine ⟨⟨k + 1, by omega, by omega, ?_⟩, by dsimp only; omega⟩
    rw [List.take_add_one, List.getElem?_eq_getElem hkx, List.map_append, List.flatten_append, ← List.append_assoc]
    simpa using hw
  · rw [List.take_of_length_le (l := r.labs) (by omega), hB] at hw
    exact ⟨out, rfl, hw.cons fun _ h => h.drop⟩
end Go.Proofs.YtfgbbckfikiomaaGreatDoor
/- Reference 18: Decode. Condition: bounds on lengths. -/
namespace Go.Proofs.YtfgbbckfikiomaaGreatDoor
set_option linter.unusedVariables false
open Go Go.VC
open scoped Classical
variable {R : Cx} {Hs Rest : List HP} {w : World}
theorem pushS_rule {P : Program} {t1 t2 ty T T' : TypeId} {bytes : Nat} (E : El P t1 t2 T bytes) {R : Cx} {Hs : List HP} {w : World} {s : Sl} {xs : List Value} {x : Value} {K : Sl → World → Prop} {S : World → Prop}
    (hw : Sat R (Own s T xs :: Hs) w) (h1 : oneAll xs = true) (hx : x.oneCell' = true) (hb : 2 * (xs.length + 1) * bytes ≤ 281474976710656) (hb' : xs.length + 1 ≤ 9223372036854775807)
    (hS : ∀ A w, Sat R (A :: Own s T xs :: Hs) w → S w)
    (k : ∀ s' w', Sat R (Own s' T (xs ++ [x]) :: Hs) w' → K s' w') :
    New (.cells #[x] T' (0, 0)) (fun b w => S w ∧ ∃ w', ∃ t : Sl, (Builtin.append_ #[t1, t2] ty #[.slice s.a s.len s.cap, .slice (some ⟨b, 0, none⟩) 1 1]).run P w = .ok (.slice t.a t.len t.cap) w' ∧ K t w') w := by
  refine new_rule hw fun b w hw => ⟨hS _ _ hw, ?_⟩
  have hw : Sat R (pts b (.cells [x].toArray T' (0, 0)) :: Own s T xs :: Hs) w := hw
  exact append_rule E hw.swap (Src_one E.hk 1 hw hx) h1 hb hb' fun s' w' h => k s' w' h.swap.drop
theorem rrstr_rule {q : Nat} {s : Sl} {bs : List Int} {rd : Rd} {most : Int} {K : ByteArray → World → Prop} (hm : most < 9223372036854775808) (hl : bs.length ≤ 1099511627776) (hb : Bytes bs) (hs : SlR R.m s (b8 bs)) (hw : Sat R (RRdAt q s bs rd :: Hs) w)
    (k : ∀ w', Sat R (RRdAt q s bs (strRd most rd).2 :: Hs) w' → K (strRd most rd).1 w') :
    Calls Tryz.prog 85 #[.pointer (some ⟨q, 0, none⟩), .int .i64 most] w fun e w' => ∃ t : Sl, (e = .returned (.slice t.a t.len t.cap)) ∧
      ∃ x : ByteArray, (∀ w2, (fun w'' => w'' = w') w2 → ((convert 42 9 (.slice t.a t.len t.cap))).run Tryz.prog w2 = .ok (.string x) w2) ∧ K x w' := by
  obtain ⟨n, ⟨hn, hd⟩, _⟩ := Sat.rrd.1 hw
  have hrd : rd.bs.length ≤ bs.length := by rw [← hd, List.length_drop]; omega
  have htl := rdText_len (most := most) (rd := rd)
  refine (rrtext_spec hm hl hb hs hw).use ?_
  rintro _ w ⟨t, rfl, hw⟩
  refine ⟨t, rfl, VC.strOf (rdText most rd).1, fun w' e => ?_, k _ hw.drop⟩
  rw [show w' = w from e]
  obtain ⟨R', hr, _, hw2, back⟩ := Own.lend hw (by rw [List.length_map]; omega)
  exact convS_ro Tryz.underlying42 Tryz.underlying5 Tryz.underlying9 hw2 hr
theorem wrapN {x : Int} (h : 0 ≤ x) (h2 : x < 9223372036854775808) : IntKind.i64.wrap x = x := wrap64 (by omega) h2
end Go.Proofs.YtfgbbckfikiomaaGreatDoor
/- Reference 18: Read. Condition: bounds on lengths. -/
namespace Go.Proofs.YtfgbbckfikiomaaGreatDoor
set_option linter.unusedVariables false
open Go Go.VC
open scoped Classical
variable {R : Cx} {Hs Rest : List HP} {w : World}
theorem rpRd_eq (r : Rd) : rpRd r =
  let k := rdNum 1099511627776 r
  let p := strRd 16 k.2
  let s := rdNum 1099511627776 p.2
  let f := rdNum 1099511627776 s.2
  let c := rdNum 1099511627776 f.2
  let m := rdNum 1099511627776 c.2
  let t := rdNum 1099511627776 m.2
  let n := rdNum 8 t.2
  let g := rdEach (rdNum 1099511627776) n.1.toNat n.2
  let q := rdNum 600 g.2
  let x := rdEach (strRd 16) q.1.toNat q.2
  (⟨k.1, p.1, s.1, f.1, c.1, m.1, t.1, g.1, x.1⟩, x.2) := rfl
set_option maxHeartbeats 1000000 in
theorem r18read_spec {s : Sl} {bs : List Int} (hb : Bytes bs) (hl : bs.length ≤ 1099511627776) (hs : SlR R.m s (b8 bs)) (hw : Sat R Hs w) :
    Gets Tryz.prog 27 #[.slice s.a s.len s.cap] w fun v w' => ∃ sl sb : Sl, v = .tuple #[.agg (rpV (rpDec bs).1 sl sb).toArray, .int .i64 (rpDec bs).2] ∧ Sat R (Own sl 3 (intsI (rpDec bs).1.left) :: Own sb 9 (strs (rpDec bs).1.labs) :: Hs) w' := by
  apply call27
  have bb0 : Bytes (⟨bs, false⟩ : Rd).bs := hb
  have hcm := rpRd_eq ⟨bs, false⟩
  obtain ⟨rd0, e0⟩ : ∃ rd : Rd, rd = ⟨bs, false⟩ := ⟨_, rfl⟩
  rw [← e0] at bb0 hcm
  refine new_rule hw fun b2 w hw => ?_
  have hw : Sat R (rpNew b2 :: Hs) w := hw
  refine new_rule hw fun q w hw => ?_
  have hw : Sat R (pts q (rrCells s 0 false) :: rpNew b2 :: Hs) w := hw
  have hw : Sat R (RRdAt q s bs ⟨bs, false⟩ :: rpNew b2 :: Hs) w := Sat.rrd.2 ⟨0, ⟨by omega, rfl⟩, hw⟩
  rw [← e0] at hw
  have bb1 := rdNum_bd (most := 1099511627776) bb0
  have v1 := rdNum_val (most := 1099511627776) bb0 (by omega)
  obtain ⟨k, rd1, e1⟩ : ∃ y rd, rdNum 1099511627776 rd0 = (y, rd) := ⟨_, _, rfl⟩
  refine (rrnum_spec (most := 1099511627776) hl hb hs hw).use ?_
  clear hw
  rintro _ w ⟨rfl, hw⟩
  rw [e1] at bb1 v1 hw ⊢
  dsimp only at bb1 v1 hw ⊢
  refine ⟨_, rfl, ?_⟩
  rw [wrapN (x := k) v1.1 (by omega)]
  have bb2 := strRd_bd (most := 16) bb1
  obtain ⟨p, rd2, e2⟩ : ∃ y rd, strRd 16 rd1 = (y, rd) := ⟨_, _, rfl⟩
  refine rrstr_rule (most := 16) (by omega) hl hb hs hw fun w hw => ?_
  rw [e2] at bb2 hw ⊢
  dsimp only at bb2 hw ⊢
  refine new_rule hw fun b w hw => ?_
  have hw : Sat R (rpNew b :: RRdAt q s bs rd2 :: rpNew b2 :: Hs) w := hw
  refine store_rule hw (by kernel_rfl) rfl (by simp [Value.cells]) fun w hw => ?_
  have hw : Sat R (RRdAt q s bs rd2 :: rpC b (rpHead k p 0 0 0 0 0) nilSl nilSl :: rpNew b2 :: Hs) w := (hw.re (rpC b (rpHead k p 0 0 0 0 0) nilSl nilSl)).arr
  have bb3 := rdNum_bd (most := 1099511627776) bb2
  have v3 := rdNum_val (most := 1099511627776) bb2 (by omega)
  obtain ⟨st, rd3, e3⟩ : ∃ y rd, rdNum 1099511627776 rd2 = (y, rd) := ⟨_, _, rfl⟩
  refine (rrnum_spec (most := 1099511627776) hl hb hs hw).use ?_
  clear hw
  rintro _ w ⟨rfl, hw⟩
  rw [e3] at bb3 v3 hw ⊢
  dsimp only at bb3 v3 hw ⊢
  refine ⟨_, rfl, ?_⟩
  rw [wrapN (x := st) v3.1 (by omega)]
  refine store_rule hw (by kernel_rfl) rfl (by simp [Value.cells]) fun w hw => ?_
  have hw : Sat R (RRdAt q s bs rd3 :: rpC b ({ rpHead k p 0 0 0 0 0 with state := st }) nilSl nilSl :: rpNew b2 :: Hs) w := (hw.re (rpC b ({ rpHead k p 0 0 0 0 0 with state := st }) nilSl nilSl)).arr
  have bb4 := rdNum_bd (most := 1099511627776) bb3
  have v4 := rdNum_val (most := 1099511627776) bb3 (by omega)
  obtain ⟨f, rd4, e4⟩ : ∃ y rd, rdNum 1099511627776 rd3 = (y, rd) := ⟨_, _, rfl⟩
  refine (rrnum_spec (most := 1099511627776) hl hb hs hw).use ?_
  clear hw
  rintro _ w ⟨rfl, hw⟩
  rw [e4] at bb4 v4 hw ⊢
  dsimp only at bb4 v4 hw ⊢
  refine ⟨_, rfl, ?_⟩
  rw [wrapN (x := f) v4.1 (by omega)]
  refine store_rule hw (by kernel_rfl) rfl (by simp [Value.cells]) fun w hw => ?_
  have hw : Sat R (RRdAt q s bs rd4 :: rpC b ({ rpHead k p 0 0 0 0 0 with state := st, flt := f }) nilSl nilSl :: rpNew b2 :: Hs) w := (hw.re (rpC b ({ rpHead k p 0 0 0 0 0 with state := st, flt := f }) nilSl nilSl)).arr
  have bb5 := rdNum_bd (most := 1099511627776) bb4
  have v5 := rdNum_val (most := 1099511627776) bb4 (by omega)
  obtain ⟨c, rd5, e5⟩ : ∃ y rd, rdNum 1099511627776 rd4 = (y, rd) := ⟨_, _, rfl⟩
  refine (rrnum_spec (most := 1099511627776) hl hb hs hw).use ?_
  clear hw
  rintro _ w ⟨rfl, hw⟩
  rw [e5] at bb5 v5 hw ⊢
  dsimp only at bb5 v5 hw ⊢
  refine ⟨_, rfl, ?_⟩
  rw [wrapN (x := c) v5.1 (by omega)]
  refine store_rule hw (by kernel_rfl) rfl (by simp [Value.cells]) fun w hw => ?_
  have hw : Sat R (RRdAt q s bs rd5 :: rpC b ({ rpHead k p 0 0 0 0 0 with state := st, flt := f, cls := c }) nilSl nilSl :: rpNew b2 :: Hs) w := (hw.re (rpC b ({ rpHead k p 0 0 0 0 0 with state := st, flt := f, cls := c }) nilSl nilSl)).arr
  have bb6 := rdNum_bd (most := 1099511627776) bb5
  have v6 := rdNum_val (most := 1099511627776) bb5 (by omega)
  obtain ⟨m, rd6, e6⟩ : ∃ y rd, rdNum 1099511627776 rd5 = (y, rd) := ⟨_, _, rfl⟩
  refine (rrnum_spec (most := 1099511627776) hl hb hs hw).use ?_
  clear hw
  rintro _ w ⟨rfl, hw⟩
  rw [e6] at bb6 v6 hw ⊢
  dsimp only at bb6 v6 hw ⊢
  refine ⟨_, rfl, ?_⟩
  rw [wrapN (x := m) v6.1 (by omega)]
  refine store_rule hw (by kernel_rfl) rfl (by simp [Value.cells]) fun w hw => ?_
  have hw : Sat R (RRdAt q s bs rd6 :: rpC b ({ rpHead k p 0 0 0 0 0 with state := st, flt := f, cls := c, many := m }) nilSl nilSl :: rpNew b2 :: Hs) w := (hw.re (rpC b ({ rpHead k p 0 0 0 0 0 with state := st, flt := f, cls := c, many := m }) nilSl nilSl)).arr
  have bb7 := rdNum_bd (most := 1099511627776) bb6
  have v7 := rdNum_val (most := 1099511627776) bb6 (by omega)
  obtain ⟨t, rd7, e7⟩ : ∃ y rd, rdNum 1099511627776 rd6 = (y, rd) := ⟨_, _, rfl⟩
  refine (rrnum_spec (most := 1099511627776) hl hb hs hw).use ?_
  clear hw
  rintro _ w ⟨rfl, hw⟩
  rw [e7] at bb7 v7 hw ⊢
  dsimp only at bb7 v7 hw ⊢
  refine ⟨_, rfl, ?_⟩
  rw [wrapN (x := t) v7.1 (by omega)]
  refine store_rule hw (by kernel_rfl) rfl (by simp [Value.cells]) fun w hw => ?_
  have hw : Sat R (RRdAt q s bs rd7 :: rpC b ({ rpHead k p 0 0 0 0 0 with state := st, flt := f, cls := c, many := m, time := t }) nilSl nilSl :: rpNew b2 :: Hs) w := (hw.re (rpC b ({ rpHead k p 0 0 0 0 0 with state := st, flt := f, cls := c, many := m, time := t }) nilSl nilSl)).arr
  have bb8 := rdNum_bd (most := 8) bb7
  have v8 := rdNum_val (most := 8) bb7 (by omega)
  obtain ⟨n8, rd8, e8⟩ : ∃ y rd, rdNum 8 rd7 = (y, rd) := ⟨_, _, rfl⟩
  refine (rrnum_spec (most := 8) hl hb hs hw).use ?_
  clear hw
  rintro _ w ⟨rfl, hw⟩
  rw [e8] at bb8 v8 hw ⊢
  dsimp only at bb8 v8 hw ⊢
  refine ⟨_, rfl, ?_⟩
  obtain ⟨n, rfl⟩ := Int.eq_ofNat_of_zero_le v8.1
  have inv : ∀ k, Bytes (rdEach (rdNum 1099511627776) k rd8).2.bs := fun k => (rdEach_inv (one := rdNum 1099511627776) (P := fun r => Bytes r.bs) (Q := fun _ => True) (fun r hr => ⟨trivial, rdNum_bd hr⟩) k bb8).2
  refine ⟨fun i w => ∃ (j : Nat) (sg : Sl), i = j ∧ j ≤ n ∧ Sat R (RRdAt q s bs (rdEach (rdNum 1099511627776) j rd8).2 :: rpC b ({ rpHead k p 0 0 0 0 0 with state := st, flt := f, cls := c, many := m, time := t, left := (rdEach (rdNum 1099511627776) j rd8).1 }) sg nilSl :: Own sg 3 (intsI (rdEach (rdNum 1099511627776) j rd8).1) :: rpNew b2 :: Hs) w, fun i _ => n - i.toNat, ⟨0, nilSl, rfl, by omega, show Sat R (RRdAt q s bs rd8 :: rpC b ({ rpHead k p 0 0 0 0 0 with state := st, flt := f, cls := c, many := m, time := t, left := [] }) nilSl nilSl :: Own nilSl 3 (intsI []) :: rpNew b2 :: Hs) w from (show Sat R (Own nilSl 3 (intsI []) :: RRdAt q s bs rd8 :: rpC b ({ rpHead k p 0 0 0 0 0 with state := st, flt := f, cls := c, many := m, time := t, left := [] }) nilSl nilSl :: rpNew b2 :: Hs) w from Own.nil hw).arr⟩, ?_⟩
  clear hw
  rintro _ _ w ⟨j, sg, rfl, hj, hw⟩
  refine Br.d (fun h => ?_) (fun h => ?_)
  · have gl := rdEach_len (rdNum 1099511627776) j rd8
    have bj := inv j
    have hsn := rdEach_snoc (rdNum 1099511627776) j rd8
    have vj := rdNum_val (most := 1099511627776) bj (by omega)
    rw [wrapU64 (x := (j : Int) + 1) (by omega) (by omega)]
    generalize (rdEach (rdNum 1099511627776) j rd8).1 = gs at *
    generalize (rdEach (rdNum 1099511627776) j rd8).2 = rdj at *
    refine drw_rule' (Sat R [rpC b ({ rpHead k p 0 0 0 0 0 with state := st, flt := f, cls := c, many := m, time := t, left := gs }) sg nilSl, VC.tru]) hw (fun w hw => tru2 hw) fun w hw => ?_
    refine ⟨sg, At.own (fun _ h => h) (by exact ⟨rfl, trivial⟩), ?_⟩
    refine (rrnum_spec (most := 1099511627776) hl hb hs hw).use ?_
    clear hw
    rintro _ w ⟨rfl, hw⟩
    refine ⟨_, rfl, tru2 hw, ?_⟩
    rw [wrapN vj.1 (by omega)]
    have hw : Sat R (Own sg 3 (intsI gs) :: rpC b ({ rpHead k p 0 0 0 0 0 with state := st, flt := f, cls := c, many := m, time := t, left := gs }) sg nilSl :: RRdAt q s bs (rdNum 1099511627776 rdj).2 :: rpNew b2 :: Hs) w := hw.arr
    refine pushS_rule elI8 hw (by unfold oneAll; simp [Value.oneCell']) rfl (by rw [List.length_map]; omega) (by rw [List.length_map]; omega) (fun A w hw => (hw.arr (Hs' := rpC b ({ rpHead k p 0 0 0 0 0 with state := st, flt := f, cls := c, many := m, time := t, left := gs }) sg nilSl :: A :: Own sg 3 (intsI gs) :: RRdAt q s bs (rdNum 1099511627776 rdj).2 :: rpNew b2 :: Hs)).restTru2) fun sg' w hw => ?_
    refine store_rule hw (by kernel_rfl) rfl (by simp [Value.cells]) fun w hw => ?_
    have hw := hw.re (rpC b ({ rpHead k p 0 0 0 0 0 with state := st, flt := f, cls := c, many := m, time := t, left := gs ++ [(rdNum 1099511627776 rdj).1] }) sg' nilSl)
    refine ⟨⟨j + 1, sg', by omega, by omega, ?_⟩, by dsimp only; omega⟩
    rw [hsn]
    simp only [List.map_append, List.map_cons, List.map_nil] at hw ⊢
    exact hw.arr
  have hjn : j = n := by omega
  subst hjn
  have gl := rdEach_len (rdNum 1099511627776) j rd8
  have bb9 := inv j
  clear inv
  obtain ⟨gs, rd9, e9⟩ : ∃ y rd, rdEach (rdNum 1099511627776) j rd8 = (y, rd) := ⟨_, _, rfl⟩
  rw [e9] at gl bb9 hw
  dsimp only at gl bb9 hw
  have bb10 := rdNum_bd (most := 600) bb9
  have v10 := rdNum_val (most := 600) bb9 (by omega)
  obtain ⟨n10, rd10, e10⟩ : ∃ y rd, rdNum 600 rd9 = (y, rd) := ⟨_, _, rfl⟩
  refine (rrnum_spec (most := 600) hl hb hs hw).use ?_
  clear hw
  rintro _ w ⟨rfl, hw⟩
  rw [e10] at bb10 v10 hw ⊢
  dsimp only at bb10 v10 hw ⊢
  refine ⟨_, rfl, ?_⟩
  obtain ⟨n, rfl⟩ := Int.eq_ofNat_of_zero_le v10.1
  have inv : ∀ k, Bytes (rdEach (strRd 16) k rd10).2.bs := fun k => (rdEach_inv (one := strRd 16) (P := fun r => Bytes r.bs) (Q := fun _ => True) (fun r hr => ⟨trivial, strRd_bd hr⟩) k bb10).2
  refine ⟨fun i w => ∃ (j : Nat) (sp : Sl), i = j ∧ j ≤ n ∧ Sat R (RRdAt q s bs (rdEach (strRd 16) j rd10).2 :: rpC b ({ rpHead k p 0 0 0 0 0 with state := st, flt := f, cls := c, many := m, time := t, left := gs, labs := (rdEach (strRd 16) j rd10).1 }) sg sp :: Own sg 3 (intsI gs) :: Own sp 9 (strs (rdEach (strRd 16) j rd10).1) :: rpNew b2 :: Hs) w, fun i _ => n - i.toNat, ⟨0, nilSl, rfl, by omega, show Sat R (RRdAt q s bs rd10 :: rpC b ({ rpHead k p 0 0 0 0 0 with state := st, flt := f, cls := c, many := m, time := t, left := gs, labs := [] }) sg nilSl :: Own sg 3 (intsI gs) :: Own nilSl 9 (strs []) :: rpNew b2 :: Hs) w from (show Sat R (Own nilSl 9 (strs []) :: RRdAt q s bs rd10 :: rpC b ({ rpHead k p 0 0 0 0 0 with state := st, flt := f, cls := c, many := m, time := t, left := gs, labs := [] }) sg nilSl :: Own sg 3 (intsI gs) :: rpNew b2 :: Hs) w from Own.nil hw).arr⟩, ?_⟩
  clear hw
  rintro _ _ w ⟨i, sp, rfl, hi, hw⟩
  refine Br.d (fun h => ?_) (fun h => ?_)
  · have pl := rdEach_len (strRd 16) i rd10
    have bj := inv i
    have hsn := rdEach_snoc (strRd 16) i rd10
    rw [wrapU64 (x := (i : Int) + 1) (by omega) (by omega)]
    generalize (rdEach (strRd 16) i rd10).1 = ps at *
    generalize (rdEach (strRd 16) i rd10).2 = rdj at *
    refine drw_rule' (Sat R [rpC b ({ rpHead k p 0 0 0 0 0 with state := st, flt := f, cls := c, many := m, time := t, left := gs, labs := ps }) sg sp, VC.tru]) hw (fun w hw => tru2 hw) fun w hw => ?_
    refine ⟨sp, At.own (fun _ h => h) (by exact ⟨rfl, trivial⟩), ?_⟩
    obtain ⟨n0, ⟨hn0, hd0⟩, _⟩ := Sat.rrd.1 hw
    have hrd : rdj.bs.length ≤ bs.length := by rw [← hd0, List.length_drop]; omega
    have htl := rdText_len (most := 16) (rd := rdj)
    refine (rrtext_spec (most := 16) (by omega) hl hb hs hw).use ?_
    clear hw
    rintro _ w ⟨t65, rfl, hw⟩
    have hw : Sat R (Own t65 5 (b8 (rdText 16 rdj).1) :: RRdAt q s bs (strRd 16 rdj).2 :: rpC b ({ rpHead k p 0 0 0 0 0 with state := st, flt := f, cls := c, many := m, time := t, left := gs, labs := ps }) sg sp :: Own sg 3 (intsI gs) :: Own sp 9 (strs ps) :: rpNew b2 :: Hs) w := hw
    refine ⟨t65, rfl, (hw.arr (Hs' := rpC b ({ rpHead k p 0 0 0 0 0 with state := st, flt := f, cls := c, many := m, time := t, left := gs, labs := ps }) sg sp :: Own t65 5 (b8 (rdText 16 rdj).1) :: RRdAt q s bs (strRd 16 rdj).2 :: Own sg 3 (intsI gs) :: Own sp 9 (strs ps) :: rpNew b2 :: Hs)).restTru2, (strRd 16 rdj).1, fun w' e => ?_, ?_⟩
    · rw [show w' = w from e]
      obtain ⟨R', hr, _, hw2, back⟩ := Own.lend hw (by rw [List.length_map]; omega)
      exact convS_ro Tryz.underlying42 Tryz.underlying5 Tryz.underlying9 hw2 hr
    have hw := hw.drop
    have hw : Sat R (Own sp 9 (strs ps) :: rpC b ({ rpHead k p 0 0 0 0 0 with state := st, flt := f, cls := c, many := m, time := t, left := gs, labs := ps }) sg sp :: RRdAt q s bs (strRd 16 rdj).2 :: Own sg 3 (intsI gs) :: rpNew b2 :: Hs) w := hw.arr
    refine pushS_rule elStr hw (oneAll_str _) rfl (by rw [List.length_map]; omega) (by rw [List.length_map]; omega) (fun A w hw => (hw.arr (Hs' := rpC b ({ rpHead k p 0 0 0 0 0 with state := st, flt := f, cls := c, many := m, time := t, left := gs, labs := ps }) sg sp :: A :: Own sp 9 (strs ps) :: RRdAt q s bs (strRd 16 rdj).2 :: Own sg 3 (intsI gs) :: rpNew b2 :: Hs)).restTru2) fun sp' w hw => ?_
    refine ⟨(hw.arr (Hs' := rpC b ({ rpHead k p 0 0 0 0 0 with state := st, flt := f, cls := c, many := m, time := t, left := gs, labs := ps }) sg sp :: Own sp' 9 (strs ps ++ [Value.string (strRd 16 rdj).1]) :: RRdAt q s bs (strRd 16 rdj).2 :: Own sg 3 (intsI gs) :: rpNew b2 :: Hs)).restTru2, ?_⟩
    refine store_rule hw (by kernel_rfl) rfl (by simp [Value.cells]) fun w hw => ?_
    have hw := hw.re (rpC b ({ rpHead k p 0 0 0 0 0 with state := st, flt := f, cls := c, many := m, time := t, left := gs, labs := ps ++ [(strRd 16 rdj).1] }) sg sp')
    refine ⟨⟨i + 1, sp', by omega, by omega, ?_⟩, by dsimp only; omega⟩
    rw [hsn]
    have e : strs ps ++ [Value.string (strRd 16 rdj).1] = strs (ps ++ [(strRd 16 rdj).1]) := by simp
    rw [e] at hw
    exact hw.arr
  have hin : i = n := by omega
  subst hin
  clear inv
  obtain ⟨ps, rd11, e11⟩ : ∃ y rd, rdEach (strRd 16) i rd10 = (y, rd) := ⟨_, _, rfl⟩
  rw [e11] at hw
  dsimp only at hw
  have hC : rpRd rd0 = ({ rpHead k p 0 0 0 0 0 with state := st, flt := f, cls := c, many := m, time := t, left := gs, labs := ps }, rd11) := by
    rw [hcm]
    simp only [e1, e2, e3, e4, e5, e6, e7, e8, e9, e10, e11, Int.toNat_natCast]
  clear hcm
  rw [e0] at hC
  have hdec : rpDec bs = if rdWhole rd11 = true then ({ rpHead k p 0 0 0 0 0 with state := st, flt := f, cls := c, many := m, time := t, left := gs, labs := ps }, 0) else (zeroR, 6) := by unfold rpDec; rw [hC]
  obtain ⟨C, eC⟩ : ∃ C : Rp, C = { rpHead k p 0 0 0 0 0 with state := st, flt := f, cls := c, many := m, time := t, left := gs, labs := ps } := ⟨_, rfl⟩
  rw [← eC] at hdec hw
  have eg : C.left = gs := by rw [eC]
  have ep : C.labs = ps := by rw [eC]
  rw [← eg] at hw
  rw [← ep] at hw
  clear eC hC eg ep e1 e2 e3 e4 e5 e6 e7 e8 e9 e10 e11
  refine (rrwhole_spec hs hw).use ?_
  clear hw
  rintro _ w ⟨rfl, hw⟩
  refine ⟨_, rfl, Br.nb (fun h => ?_) (fun h => ?_)⟩
  · have hw : Sat R (rpNew b2 :: Hs) w := hw.drop.drop.drop.drop
    refine store_rule hw (by kernel_rfl) rfl (by simp [Value.cells]) fun w hw => ?_
    have hw := hw.re (rpNew b2)
    refine ⟨_, _, _, _, _, _, _, nilSl, nilSl, At.own (eqS hw) (by exact ⟨rfl, rfl, rfl, rfl, rfl, rfl, rfl, rfl, rfl, trivial⟩), ?_⟩
    rw [hdec, if_neg (by rw [h]; simp)]
    exact ⟨nilSl, nilSl, rfl, Own.nil (Own.nil hw.drop)⟩
  refine ⟨C.code, C.pnr, C.state, C.flt, C.cls, C.many, C.time, sg, sp, At.own (eqS hw) (by exact ⟨rfl, rfl, rfl, rfl, rfl, rfl, rfl, rfl, rfl, trivial⟩), ?_⟩
  have hw : Sat R (rpNew b2 :: RRdAt q s bs rd11 :: rpC b C sg sp :: Own sp 9 (strs C.labs) :: Own sg 3 (intsI C.left) :: Hs) w := hw.arr
  refine store_rule hw (by kernel_rfl) rfl (by simp [Value.cells]) fun w hw => ?_
  have hw := hw.re (rpC b2 C sg sp)
  refine ⟨C.code, C.pnr, C.state, C.flt, C.cls, C.many, C.time, sg, sp, At.own (eqS hw) (by exact ⟨rfl, rfl, rfl, rfl, rfl, rfl, rfl, rfl, rfl, trivial⟩), ?_⟩
  rw [hdec, if_pos h]
  exact ⟨sg, sp, rfl, (hw.drop.arr (Hs' := Own sg 3 (intsI C.left) :: Own sp 9 (strs C.labs) :: RRdAt q s bs rd11 :: rpC b C sg sp :: Hs)).cons fun _ h => h.cons fun _ h => h.drop.drop⟩
end Go.Proofs.YtfgbbckfikiomaaGreatDoor
/- The formulas of functions of this seat's translation, printed by a program of mine off the translation; each is proved equal to 'fnF' of the function's body, so it is enough for the call. No condition. -/
namespace Go.Proofs.YtfgbbckfikiomaaGreatDoor
open Go Go.VC
set_option linter.unusedVariables false
set_option maxRecDepth 10000
def B12  (K : Value → World → Prop) (w : World) : Prop :=
  Calls Tryz.prog 14 #[] w fun e w_1 =>
  ∃ t3 : Option Addr, (e = .returned (.pointer t3)) ∧
  Br t3.isNone
   (K (.bool false) w_1)
   (Calls Tryz.prog 38 #[] w_1 fun e_1 w_2 =>
    ∃ t7 : Int, ∃ t7_1 : ByteArray, ∃ t7_2 : Int, ∃ t7_3 : Int, ∃ t7_4 : Int, ∃ t7_5 : Int, ∃ t7_6 : Nat, ∃ t7_7 : ByteArray, ∃ t7_8 : Int, ∃ t7_9 : Sl, ∃ t7_10 : Sl, (e_1 = .returned (.agg #[.int .i64 t7, .string t7_1, .int .i64 t7_2, .int .i64 t7_3, .int .i64 t7_4, .int .i64 t7_5, .float .f64 t7_6, .string t7_7, .int .i64 t7_8, .slice t7_9.a t7_9.len t7_9.cap, .slice t7_10.a t7_10.len t7_10.cap])) ∧
    Calls Tryz.prog 15 #[.pointer t3, .agg #[.int .i64 t7, .string t7_1, .int .i64 t7_2, .int .i64 t7_3, .int .i64 t7_4, .int .i64 t7_5, .float .f64 t7_6, .string t7_7, .int .i64 t7_8, .slice t7_9.a t7_9.len t7_9.cap, .slice t7_10.a t7_10.len t7_10.cap]] w_2 fun e_2 w_3 =>
    ∃ t8 : Int, ∃ t8_1 : ByteArray, ∃ t8_2 : Int, ∃ t8_3 : Int, ∃ t8_4 : Int, ∃ t8_5 : Int, ∃ t8_6 : Int, ∃ t8_7 : Sl, ∃ t8_8 : Sl, (e_2 = .returned (.agg #[.int .i64 t8, .string t8_1, .int .i64 t8_2, .int .i64 t8_3, .int .i64 t8_4, .int .i64 t8_5, .int .i64 t8_6, .slice t8_7.a t8_7.len t8_7.cap, .slice t8_8.a t8_8.len t8_8.cap])) ∧
    New (.cells #[.int .i64 0, .string (ByteArray.mk #[]), .int .i64 0, .int .i64 0, .int .i64 0, .int .i64 0, .int .i64 0, .slice none 0 0, .slice none 0 0] 31 (0, 0)) (fun b_r2 w_4 =>
    ∃ w_5 : World, ((Instr.storeAt 31 (.pointer ((some ⟨b_r2, 0, none⟩))) (.agg #[.int .i64 t8, .string t8_1, .int .i64 t8_2, .int .i64 t8_3, .int .i64 t8_4, .int .i64 t8_5, .int .i64 t8_6, .slice t8_7.a t8_7.len t8_7.cap, .slice t8_8.a t8_8.len t8_8.cap])).run Tryz.prog w_4 = .ok () w_5) ∧
    ∃ t10 : Int, (At (fun w' => w' = w_5) ⟨b_r2, 0, none⟩ [.int .i64 t10]) ∧
    Br (t10 == 0)
     (∃ t14 : Sl, (At (fun w' => w' = w_5) ⟨b_r2, 0 + 7, none⟩ [.slice t14.a t14.len t14.cap]) ∧
      Br ((↑t14.len : Int) == 1)
       (∃ t20 : Sl, (At (fun w' => w' = w_5) ⟨b_r2, 0 + 7, none⟩ [.slice t20.a t20.len t20.cap]) ∧
        Rng 0 t20.len (NilP t20.a fun a_t21 =>
        ∃ t22 : Int, (At (fun w' => w' = w_5) (Addr.add a_t21 0) [.int .i64 t22]) ∧
        K (.bool (t22 == 2)) w_5))
       (K (.bool false) w_5))
     (K (.bool false) w_5)) w_3)
def sk12 : Sk := .leaf
theorem ok12 : fnOk Tryz.prog Tryz.f12.ntmps Tryz.f12 sk12 = true := by kernel_rfl
theorem eq12  (K : Value → World → Prop) (w : World) : fnF Tryz.prog cl Tryz.f12 sk12 [] K w = B12  K w := by kernel_rfl
theorem call12  (K : Value → World → Prop) (w : World) (h : B12  K w) : Gets Tryz.prog 12 #[] w K :=
  calls_of (sk := sk12) cl_ok mixed Tryz.func12 ok12 (args := []) (Nat.le_of_ble_eq_true (by kernel_rfl)) (by rw [eq12]; exact h)
def B38  (K : Value → World → Prop) (w : World) : Prop :=
  New (.cells #[.int .i64 0, .string (ByteArray.mk #[]), .int .i64 0, .int .i64 0, .int .i64 0, .int .i64 0, .float .f64 0, .string (ByteArray.mk #[]), .int .i64 0, .slice none 0 0, .slice none 0 0] 38 (0, 0)) (fun b_t0 w_1 =>
  New (.cells #[.int .i64 2] 3 (0, 0)) (fun b_t1 w_2 =>
  New (.cells #[.float .f64 4607182418800017408] 33 (0, 0)) (fun b_t3 w_3 =>
  ∃ w_4 : World, ((Instr.storeAt 38 (.pointer ((some ⟨b_t0, 0, none⟩))) (.agg #[.int .i64 1, .string (ByteArray.mk #[]), .int .i64 7, .int .i64 0, .int .i64 0, .int .i64 0, .float .f64 0, .string (ByteArray.mk #[]), .int .i64 1, .slice ((some ⟨b_t1, 0, none⟩)) 1 1, .slice ((some ⟨b_t3, 0, none⟩)) 1 1])).run Tryz.prog w_3 = .ok () w_4) ∧
  ∃ u : Int, ∃ u_1 : ByteArray, ∃ u_2 : Int, ∃ u_3 : Int, ∃ u_4 : Int, ∃ u_5 : Int, ∃ u_6 : Nat, ∃ u_7 : ByteArray, ∃ u_8 : Int, ∃ u_9 : Sl, ∃ u_10 : Sl, (At (fun w' => w' = w_4) ⟨b_t0, 0, none⟩ [.int .i64 u, .string u_1, .int .i64 u_2, .int .i64 u_3, .int .i64 u_4, .int .i64 u_5, .float .f64 u_6, .string u_7, .int .i64 u_8, .slice u_9.a u_9.len u_9.cap, .slice u_10.a u_10.len u_10.cap]) ∧
  K (.agg #[.int .i64 u, .string u_1, .int .i64 u_2, .int .i64 u_3, .int .i64 u_4, .int .i64 u_5, .float .f64 u_6, .string u_7, .int .i64 u_8, .slice u_9.a u_9.len u_9.cap, .slice u_10.a u_10.len u_10.cap]) w_4) w_2) w_1) w
def sk38 : Sk := .leaf
theorem ok38 : fnOk Tryz.prog Tryz.f38.ntmps Tryz.f38 sk38 = true := by kernel_rfl
theorem eq38  (K : Value → World → Prop) (w : World) : fnF Tryz.prog cl Tryz.f38 sk38 [] K w = B38  K w := by kernel_rfl
theorem call38  (K : Value → World → Prop) (w : World) (h : B38  K w) : Gets Tryz.prog 38 #[] w K :=
  calls_of (sk := sk38) cl_ok mixed Tryz.func38 ok38 (args := []) (Nat.le_of_ble_eq_true (by kernel_rfl)) (by rw [eq38]; exact h)
def B7 (r0_0 : Int) (r0_1 : ByteArray) (r0_2 : Int) (r0_3 : Int) (r0_4 : Int) (r0_5 : Int) (r0_6 : Int) (r0_7 : Sl) (r0_8 : Sl) (b1 : Sl) (K : Value → World → Prop) (w : World) : Prop :=
  New (.cells #[.int .i64 r0_0, .string r0_1, .int .i64 r0_2, .int .i64 r0_3, .int .i64 r0_4, .int .i64 r0_5, .int .i64 r0_6, .slice r0_7.a r0_7.len r0_7.cap, .slice r0_8.a r0_8.len r0_8.cap] 31 (0, 0)) (fun b_r2 w_1 =>
  Calls Tryz.prog 12 #[] w_1 fun e w_2 =>
  ∃ t13 : Bool, (e = .returned (.bool t13)) ∧
  ∃ (J : World → Prop), (Br (!t13)
     (K (.bool t13) w_2)
     (∃ t18 : Sl, (At (fun w' => w' = w_2) ⟨b_r2, 0 + 7, none⟩ [.slice t18.a t18.len t18.cap]) ∧
      Br (decide ((↑t18.len : Int) > 1000))
       (K (.bool t13) w_2)
       (∃ t24 : Sl, (At (fun w' => w' = w_2) ⟨b_r2, 0 + 8, none⟩ [.slice t24.a t24.len t24.cap]) ∧
        Br (decide ((↑t24.len : Int) > 1000))
         (K (.bool t13) w_2)
         (Br (decide ((↑b1.len : Int) > 20000))
           (K (.bool t13) w_2)
           (∃ t35 : ByteArray, (At (fun w' => w' = w_2) ⟨b_r2, 0 + 1, none⟩ [.string t35]) ∧
            Br (decide ((↑t35.size : Int) > 1000))
             (K (.bool t13) w_2)
             (J  w_2)))))) ∧
  ∀ (z : Env)  (w_3 : World), J  w_3 →
  ∃ (I : Int → World → Prop) (μ : Int → World → Nat), (I 0 w_3) ∧ ∀ (z_1 : Env) (i6 : Int) (w_4 : World), I i6 w_4 →
  ∃ t42 : Sl, (At (fun w' => w' = w_4) ⟨b_r2, 0 + 8, none⟩ [.slice t42.a t42.len t42.cap]) ∧
  Br (decide (i6 < (↑t42.len : Int)))
   (∃ t48 : Sl, (At (fun w' => w' = w_4) ⟨b_r2, 0 + 8, none⟩ [.slice t48.a t48.len t48.cap]) ∧
    Rng i6 t48.len (NilP t48.a fun a_t50 =>
    ∃ t51 : ByteArray, (At (fun w' => w' = w_4) (Addr.add a_t50 i6.toNat) [.string t51]) ∧
    Br (decide ((↑t51.size : Int) > 1000))
     (K (.bool true) w_4)
     ((I (IntKind.i64.wrap (i6 + 1)) w_4) ∧ μ (IntKind.i64.wrap (i6 + 1)) w_4 < μ i6 w_4)))
   (∃ t54 : Int, ∃ t54_1 : ByteArray, ∃ t54_2 : Int, ∃ t54_3 : Int, ∃ t54_4 : Int, ∃ t54_5 : Int, ∃ t54_6 : Int, ∃ t54_7 : Sl, ∃ t54_8 : Sl, (At (fun w' => w' = w_4) ⟨b_r2, 0, none⟩ [.int .i64 t54, .string t54_1, .int .i64 t54_2, .int .i64 t54_3, .int .i64 t54_4, .int .i64 t54_5, .int .i64 t54_6, .slice t54_7.a t54_7.len t54_7.cap, .slice t54_8.a t54_8.len t54_8.cap]) ∧
    Calls Tryz.prog 25 #[.agg #[.int .i64 t54, .string t54_1, .int .i64 t54_2, .int .i64 t54_3, .int .i64 t54_4, .int .i64 t54_5, .int .i64 t54_6, .slice t54_7.a t54_7.len t54_7.cap, .slice t54_8.a t54_8.len t54_8.cap]] w_4 fun e_1 w_5 =>
    ∃ t55 : Sl, (e_1 = .returned (.slice t55.a t55.len t55.cap)) ∧
    Calls Tryz.prog 26 #[.slice b1.a b1.len b1.cap] w_5 fun e_2 w_6 =>
    ∃ t58 : Int, ∃ t58_1 : ByteArray, ∃ t58_2 : Int, ∃ t58_3 : Int, ∃ t58_4 : Int, ∃ t58_5 : Int, ∃ t58_6 : Int, ∃ t58_7 : Sl, ∃ t58_8 : Sl, ∃ t58_9 : Int, (e_2 = .returned (.tuple #[.agg #[.int .i64 t58, .string t58_1, .int .i64 t58_2, .int .i64 t58_3, .int .i64 t58_4, .int .i64 t58_5, .int .i64 t58_6, .slice t58_7.a t58_7.len t58_7.cap, .slice t58_8.a t58_8.len t58_8.cap], .int .i64 t58_9])) ∧
    New (.cells #[.int .i64 0, .string (ByteArray.mk #[]), .int .i64 0, .int .i64 0, .int .i64 0, .int .i64 0, .int .i64 0, .slice none 0 0, .slice none 0 0] 31 (0, 0)) (fun b_y8 w_7 =>
    ∃ w_8 : World, ((Instr.storeAt 31 (.pointer ((some ⟨b_y8, 0, none⟩))) (.agg #[.int .i64 t58, .string t58_1, .int .i64 t58_2, .int .i64 t58_3, .int .i64 t58_4, .int .i64 t58_5, .int .i64 t58_6, .slice t58_7.a t58_7.len t58_7.cap, .slice t58_8.a t58_8.len t58_8.cap])).run Tryz.prog w_7 = .ok () w_8) ∧
    Calls Tryz.prog 27 #[.slice b1.a b1.len b1.cap] w_8 fun e_3 w_9 =>
    ∃ t63 : Int, ∃ t63_1 : ByteArray, ∃ t63_2 : Int, ∃ t63_3 : Int, ∃ t63_4 : Int, ∃ t63_5 : Int, ∃ t63_6 : Int, ∃ t63_7 : Sl, ∃ t63_8 : Sl, ∃ t63_9 : Int, (e_3 = .returned (.tuple #[.agg #[.int .i64 t63, .string t63_1, .int .i64 t63_2, .int .i64 t63_3, .int .i64 t63_4, .int .i64 t63_5, .int .i64 t63_6, .slice t63_7.a t63_7.len t63_7.cap, .slice t63_8.a t63_8.len t63_8.cap], .int .i64 t63_9])) ∧
    New (.cells #[.int .i64 0, .string (ByteArray.mk #[]), .int .i64 0, .int .i64 0, .int .i64 0, .int .i64 0, .int .i64 0, .slice none 0 0, .slice none 0 0] 31 (0, 0)) (fun b_want10 w_10 =>
    ∃ w_11 : World, ((Instr.storeAt 31 (.pointer ((some ⟨b_want10, 0, none⟩))) (.agg #[.int .i64 t63, .string t63_1, .int .i64 t63_2, .int .i64 t63_3, .int .i64 t63_4, .int .i64 t63_5, .int .i64 t63_6, .slice t63_7.a t63_7.len t63_7.cap, .slice t63_8.a t63_8.len t63_8.cap])).run Tryz.prog w_10 = .ok () w_11) ∧
    ∃ t66 : Int, ∃ t66_1 : ByteArray, ∃ t66_2 : Int, ∃ t66_3 : Int, ∃ t66_4 : Int, ∃ t66_5 : Int, ∃ t66_6 : Int, ∃ t66_7 : Sl, ∃ t66_8 : Sl, (At (fun w' => w' = w_11) ⟨b_y8, 0, none⟩ [.int .i64 t66, .string t66_1, .int .i64 t66_2, .int .i64 t66_3, .int .i64 t66_4, .int .i64 t66_5, .int .i64 t66_6, .slice t66_7.a t66_7.len t66_7.cap, .slice t66_8.a t66_8.len t66_8.cap]) ∧
    ∃ t67 : Int, ∃ t67_1 : ByteArray, ∃ t67_2 : Int, ∃ t67_3 : Int, ∃ t67_4 : Int, ∃ t67_5 : Int, ∃ t67_6 : Int, ∃ t67_7 : Sl, ∃ t67_8 : Sl, (At (fun w' => w' = w_11) ⟨b_want10, 0, none⟩ [.int .i64 t67, .string t67_1, .int .i64 t67_2, .int .i64 t67_3, .int .i64 t67_4, .int .i64 t67_5, .int .i64 t67_6, .slice t67_7.a t67_7.len t67_7.cap, .slice t67_8.a t67_8.len t67_8.cap]) ∧
    Calls Tryz.prog 20 #[.agg #[.int .i64 t66, .string t66_1, .int .i64 t66_2, .int .i64 t66_3, .int .i64 t66_4, .int .i64 t66_5, .int .i64 t66_6, .slice t66_7.a t66_7.len t66_7.cap, .slice t66_8.a t66_8.len t66_8.cap], .agg #[.int .i64 t67, .string t67_1, .int .i64 t67_2, .int .i64 t67_3, .int .i64 t67_4, .int .i64 t67_5, .int .i64 t67_6, .slice t67_7.a t67_7.len t67_7.cap, .slice t67_8.a t67_8.len t67_8.cap]] w_11 fun e_4 w_12 =>
    ∃ t68 : Bool, (e_4 = .returned (.bool t68)) ∧
    Drw w_12 fun S w_13 =>
    ∃ t70 : ByteArray, (∀ w', S w' → ((convert 42 9 (.slice t55.a t55.len t55.cap))).run Tryz.prog w' = .ok (.string t70) w') ∧
    ∃ t71 : Int, ∃ t71_1 : ByteArray, ∃ t71_2 : Int, ∃ t71_3 : Int, ∃ t71_4 : Int, ∃ t71_5 : Int, ∃ t71_6 : Int, ∃ t71_7 : Sl, ∃ t71_8 : Sl, (At (fun w' => w' = w_13) ⟨b_r2, 0, none⟩ [.int .i64 t71, .string t71_1, .int .i64 t71_2, .int .i64 t71_3, .int .i64 t71_4, .int .i64 t71_5, .int .i64 t71_6, .slice t71_7.a t71_7.len t71_7.cap, .slice t71_8.a t71_8.len t71_8.cap]) ∧
    Calls Tryz.prog 28 #[.agg #[.int .i64 t71, .string t71_1, .int .i64 t71_2, .int .i64 t71_3, .int .i64 t71_4, .int .i64 t71_5, .int .i64 t71_6, .slice t71_7.a t71_7.len t71_7.cap, .slice t71_8.a t71_8.len t71_8.cap]] w_13 fun e_5 w_14 =>
    ∃ t72 : Sl, (e_5 = .returned (.slice t72.a t72.len t72.cap)) ∧
    (S w_14) ∧
    ∃ t73 : ByteArray, (∀ w', (fun w' => w' = w_14) w' → ((convert 42 9 (.slice t72.a t72.len t72.cap))).run Tryz.prog w' = .ok (.string t73) w') ∧
    Br (t70.toList == t73.toList)
     (Br t68
       (K (.bool (t58_9 == t63_9)) w_14)
       (K (.bool false) w_14))
     (K (.bool false) w_14)) w_9) w_6)) w
def sk7 : Sk := (.seq .leaf (.seq .leaf (.cut [] [] [4, 14, 15, 16, 17, 18, 19, 20, 21, 22, 23, 24, 25, 26, 27, 28, 29, 30, 31, 32, 33, 34, 35, 36, 37, 38, 39] .leaf (.seq (.seq .leaf (.block (.loop [6] [(.int .i64)] [4, 6, 40, 41, 42, 43, 44, 45, 46, 47, 48, 49, 50, 51, 52, 53] .leaf))) (.seq .leaf (.seq .leaf (.seq .leaf (.seq .leaf (.seq (.block .leaf) .leaf)))))))))
theorem ok7 : fnOk Tryz.prog Tryz.f7.ntmps Tryz.f7 sk7 = true := by kernel_rfl
theorem eq7 (r0_0 : Int) (r0_1 : ByteArray) (r0_2 : Int) (r0_3 : Int) (r0_4 : Int) (r0_5 : Int) (r0_6 : Int) (r0_7 : Sl) (r0_8 : Sl) (b1 : Sl) (K : Value → World → Prop) (w : World) : fnF Tryz.prog cl Tryz.f7 sk7 [.agg #[.int .i64 r0_0, .string r0_1, .int .i64 r0_2, .int .i64 r0_3, .int .i64 r0_4, .int .i64 r0_5, .int .i64 r0_6, .slice r0_7.a r0_7.len r0_7.cap, .slice r0_8.a r0_8.len r0_8.cap], .slice b1.a b1.len b1.cap] K w = B7 r0_0 r0_1 r0_2 r0_3 r0_4 r0_5 r0_6 r0_7 r0_8 b1 K w := by kernel_rfl
theorem call7 (r0_0 : Int) (r0_1 : ByteArray) (r0_2 : Int) (r0_3 : Int) (r0_4 : Int) (r0_5 : Int) (r0_6 : Int) (r0_7 : Sl) (r0_8 : Sl) (b1 : Sl) (K : Value → World → Prop) (w : World) (h : B7 r0_0 r0_1 r0_2 r0_3 r0_4 r0_5 r0_6 r0_7 r0_8 b1 K w) : Gets Tryz.prog 7 #[.agg #[.int .i64 r0_0, .string r0_1, .int .i64 r0_2, .int .i64 r0_3, .int .i64 r0_4, .int .i64 r0_5, .int .i64 r0_6, .slice r0_7.a r0_7.len r0_7.cap, .slice r0_8.a r0_8.len r0_8.cap], .slice b1.a b1.len b1.cap] w K :=
  calls_of (sk := sk7) cl_ok mixed Tryz.func7 ok7 (args := [.agg #[.int .i64 r0_0, .string r0_1, .int .i64 r0_2, .int .i64 r0_3, .int .i64 r0_4, .int .i64 r0_5, .int .i64 r0_6, .slice r0_7.a r0_7.len r0_7.cap, .slice r0_8.a r0_8.len r0_8.cap], .slice b1.a b1.len b1.cap]) (Nat.le_of_ble_eq_true (by kernel_rfl)) (by rw [eq7]; exact h)
end Go.Proofs.YtfgbbckfikiomaaGreatDoor
/- The laws of chapter 18: two replies, two commands; many commands. Condition: bounds on lengths. -/
namespace Go.Proofs.YtfgbbckfikiomaaGreatDoor
set_option linter.unusedVariables false
open Go Go.VC
open scoped Classical
variable {R : Cx} {Hs Rest : List HP} {w : World}
theorem same18_spec {a b : Rp} {la lb ma mb : Sl} (h1 : RoI R la a.left) (h2 : RoI R ma b.left) (h3 : Ro R lb (strs a.labs)) (h4 : Ro R mb (strs b.labs)) (hw : Sat R Hs w) :
    Gets Tryz.prog 20 #[.agg #[.int .i64 a.code, .string a.pnr, .int .i64 a.state, .int .i64 a.flt, .int .i64 a.cls, .int .i64 a.many, .int .i64 a.time, .slice la.a la.len la.cap, .slice lb.a lb.len lb.cap], .agg #[.int .i64 b.code, .string b.pnr, .int .i64 b.state, .int .i64 b.flt, .int .i64 b.cls, .int .i64 b.many, .int .i64 b.time, .slice ma.a ma.len ma.cap, .slice mb.a mb.len mb.cap]] w
      fun v w' => v = .bool (decide (a = b)) ∧ Sat R Hs w' := by
  apply call20
  refine new_rule hw fun x w hw => new_rule hw fun y w hw => ?_
  have hw : Sat R (rpC y b ma mb :: rpC x a la lb :: Hs) w := hw
  refine ⟨la, At.own (eqS hw) (by exact ⟨rfl, trivial⟩), ma, At.own (eqS hw) (by exact ⟨rfl, trivial⟩), ?_⟩
  refine (sameI_spec h1 h2 hw).use ?_
  clear hw
  rintro _ w ⟨rfl, hw⟩
  refine ⟨_, rfl, lb, At.own (eqS hw) (by exact ⟨rfl, trivial⟩), mb, At.own (eqS hw) (by exact ⟨rfl, trivial⟩), ?_⟩
  refine (sameT_spec h3 h4 hw).use ?_
  clear hw
  rintro _ w ⟨rfl, hw⟩
  refine ⟨_, rfl, ?_⟩
  have no : ¬ a = b → (Value.bool false = .bool (decide (a = b)) ∧ Sat R Hs w) := fun h => ⟨by rw [decide_eq_false h], hw.drop.drop⟩
  refine ⟨a.code, At.own (eqS hw) (by exact ⟨rfl, trivial⟩), b.code, At.own (eqS hw) (by exact ⟨rfl, trivial⟩), Br.e (fun e1 => ?_) (fun h => no fun e => h (by rw [e]))⟩
  refine ⟨a.pnr, At.own (eqS hw) (by exact ⟨rfl, trivial⟩), b.pnr, At.own (eqS hw) (by exact ⟨rfl, trivial⟩), Br.se (fun e2 => ?_) (fun h => no fun e => h (by rw [e]))⟩
  refine ⟨a.state, At.own (eqS hw) (by exact ⟨rfl, trivial⟩), b.state, At.own (eqS hw) (by exact ⟨rfl, trivial⟩), Br.e (fun e3 => ?_) (fun h => no fun e => h (by rw [e]))⟩
  refine ⟨a.flt, At.own (eqS hw) (by exact ⟨rfl, trivial⟩), b.flt, At.own (eqS hw) (by exact ⟨rfl, trivial⟩), Br.e (fun e4 => ?_) (fun h => no fun e => h (by rw [e]))⟩
  refine ⟨a.cls, At.own (eqS hw) (by exact ⟨rfl, trivial⟩), b.cls, At.own (eqS hw) (by exact ⟨rfl, trivial⟩), Br.e (fun e5 => ?_) (fun h => no fun e => h (by rw [e]))⟩
  refine ⟨a.many, At.own (eqS hw) (by exact ⟨rfl, trivial⟩), b.many, At.own (eqS hw) (by exact ⟨rfl, trivial⟩), Br.e (fun e6 => ?_) (fun h => no fun e => h (by rw [e]))⟩
  refine ⟨a.time, At.own (eqS hw) (by exact ⟨rfl, trivial⟩), b.time, At.own (eqS hw) (by exact ⟨rfl, trivial⟩), Br.e (fun e7 => ?_) (fun h => no fun e => h (by rw [e]))⟩
  refine Br.d (fun e8 => ?_) (fun h => no fun e => h (by rw [e]))
  refine ⟨?_, hw.drop.drop⟩
  congr 1
  refine decide_eq_decide.2 ⟨fun e9 => ?_, fun e => by rw [e]⟩
  cases a; cases b
  simp only at e1 e2 e3 e4 e5 e6 e7 e8 e9
  subst e1 e2 e3 e4 e5 e6 e7 e8 e9
  rfl
end Go.Proofs.YtfgbbckfikiomaaGreatDoor
/- Package booking: the book in memory; errors that are thrown and caught. Condition: none. -/
namespace Go.Proofs.YtfgbbckfikiomaaGreatDoor
set_option linter.unusedVariables false
open Go Go.VC
open scoped Classical
variable {R : Cx} {Hs Rest : List HP} {w : World}
def wtV (w : Wt) : List Value := [.int .i64 w.id, .int .i64 w.cls, .int .i64 w.many, .int .i64 w.time, .float .f64 w.sc]
abbrev quCell (s : Sl) : Obj := .cells [.slice s.a s.len s.cap].toArray 179 (0, 0)
def QuAt (q : Nat) (l : List Wt) : HP := exs fun s : Sl => Star [pts q (quCell s), OwnN 5 s 181 (l.map wtV)]
theorem Sat.qu {q : Nat} {l : List Wt} : Sat R (QuAt q l :: Hs) w ↔ ∃ s : Sl, Sat R (pts q (quCell s) :: OwnN 5 s 181 (l.map wtV) :: Hs) w := by
  unfold QuAt
  rw [Sat.exs]
  exact ⟨fun ⟨s, h⟩ => ⟨s, Sat.star.1 h⟩, fun ⟨s, h⟩ => ⟨s, Sat.star.2 h⟩⟩
abbrev FE := Nat × Nat × Pl
abbrev BE := Nat × Bk
def plAt (e : FE) : HP := Star [LoneAt e.1 e.2.2.r, QuAt e.2.1 e.2.2.q]
abbrev bkObj (x : Bk) : Obj := .cells [.int .i64 x.id, .int .i64 x.flt, .int .i64 x.cls, .int .i64 x.many, .int .i64 x.state, .int .i64 x.till].toArray 106 (0, 0)
def bkAt (e : BE) : HP := pts e.1 (bkObj e.2)
def FlsAt (fs : List FE) : HP := Star (fs.map plAt)
def BksAt (xs : List BE) : HP := Star (xs.map bkAt)
def flV (e : FE) : Int × Value := (e.2.2.n, .agg #[.pointer (some ⟨e.1, 0, none⟩), .pointer (some ⟨e.2.1, 0, none⟩)])
def bkV (e : BE) : Int × Value := (e.2.id, .pointer (some ⟨e.1, 0, none⟩))
abbrev bookC (b : Book) (m1 m2 : Nat) : Obj := .cells [.int .i64 b.now, .int .i64 b.next, .map (some m1), .map (some m2)].toArray 80 (0, 0)
structure BookL (b : Book) (fs : List FE) (xs : List BE) : Prop where
  fl : (fs.map fun e => e.2.2).Perm b.fl
  bk : xs.map (fun e => e.2) = b.L
def BookAt (p : Nat) (b : Book) : HP := exs fun m1 : Nat => exs fun m2 : Nat => exs fun fs : List FE => exs fun xs : List BE =>
  Star [pur (BookL b fs xs), pts p (bookC b m1 m2), MapAt m1 (fs.map flV), MapAt m2 (xs.map bkV), FlsAt fs, BksAt xs]
theorem Sat.book {p : Nat} {b : Book} : Sat R (BookAt p b :: Hs) w ↔ ∃ m1 m2 fs xs, BookL b fs xs ∧ Sat R (pts p (bookC b m1 m2) :: MapAt m1 (fs.map flV) :: MapAt m2 (xs.map bkV) :: FlsAt fs :: BksAt xs :: Hs) w := by
  unfold BookAt
  simp only [Sat.exs]
  constructor
  · rintro ⟨m1, m2, fs, xs, h⟩
    obtain ⟨h1, h2⟩ := Sat.pur.1 (Sat.star.1 h)
    exact ⟨m1, m2, fs, xs, h1, h2⟩
  · rintro ⟨m1, m2, fs, xs, h1, h2⟩
    exact ⟨m1, m2, fs, xs, Sat.star.2 (Sat.pur.2 ⟨h1, h2⟩)⟩
abbrev pMap : MapT Tryz.prog 77 Int 3 102 (.agg #[.pointer none, .pointer none]) := ⟨Tryz.underlying77, Tryz.underlying3, Tryz.zeroValue102⟩
theorem FlsAt.snoc {fs : List FE} {f q : Nat} {p : Pl} (hw : Sat R (LoneAt f p.r :: QuAt q p.q :: FlsAt fs :: Hs) w) : Sat R (FlsAt (fs ++ [(f, q, p)]) :: Hs) w := by
  unfold FlsAt at hw ⊢
  rw [Sat.star, List.map_append, List.append_assoc]
  have hw : Sat R (Star (fs.map plAt) :: LoneAt f p.r :: QuAt q p.q :: Hs) w := hw.arr
  rw [Sat.star] at hw
  have key : ∀ (L : List HP) {R : Cx}, Sat R (L ++ LoneAt f p.r :: QuAt q p.q :: Hs) w → Sat R (L ++ (List.map plAt [(f, q, p)] ++ Hs)) w := fun L => by
    induction L with
    | nil => exact fun h => Sat.star.2 h
    | cons A L ih => exact fun h => h.cons fun _ h => ih h
  exact key _ hw
theorem getM_ne {β : Type} {k : Int} : ∀ {l : List (Int × β)}, getM k l = none ↔ ∀ e ∈ l, e.1 ≠ k
  | [] => ⟨fun _ _ h => (by cases h), fun _ => rfl⟩
  | e :: l => by
    rw [getM]
    by_cases h : k = e.1
    · rw [if_pos (by simpa using h)]
      exact ⟨fun h2 => (by cases h2), fun h2 => absurd h.symm (h2 e (by simp))⟩
    · rw [if_neg (by simpa using h), getM_ne]
      exact ⟨fun h2 x hx => by
        rcases List.mem_cons.1 hx with h1 | h1
        · rw [h1]; exact fun e => h e.symm
        · exact h2 x h1, fun h2 x hx => h2 x (by simp [hx])⟩
theorem fl_none {b : Book} {fs : List FE} {xs : List BE} (hl : BookL b fs xs) {n : Int} : getM n (fs.map flV) = none ↔ b.at n = none := by
  unfold Book.at
  rw [getM_ne, kget_none]
  constructor
  · intro h p hp
    obtain ⟨e, he, rfl⟩ := List.mem_map.1 (hl.fl.mem_iff.2 hp)
    exact h (flV e) (List.mem_map.2 ⟨e, he, rfl⟩)
  · rintro h _ he
    obtain ⟨e, h1, rfl⟩ := List.mem_map.1 he
    exact h e.2.2 (hl.fl.mem_iff.1 (List.mem_map.2 ⟨e, h1, rfl⟩))
theorem fl_len {b : Book} {fs : List FE} {xs : List BE} (hl : BookL b fs xs) : fs.length = b.fl.length := by
  have := hl.fl.length_eq
  rwa [List.length_map] at this
abbrev errP (e : Int) : List PanicEntry := [⟨.iface 27 (.int .i64 e), false, false⟩]
theorem need_c {b : Bool} {e : Int} {Q : Ending → World → Prop} (h1 : b = true → Q (.returned (.tuple #[])) w) (h2 : b = false → Q (.panicked (errP e)) w) : Calls Tryz.prog 40 #[.bool b, .int .i64 e] w Q := by
  have h : GetsX Tryz.prog 40 #[.bool b, .int .i64 e] w (fun ch w' => b = false ∧ ch = errP e ∧ w' = w) (fun v w' => b = true ∧ v = .tuple #[] ∧ w' = w) := by
    apply call40
    exact Br.nb (fun h => ⟨h, rfl, rfl⟩) (fun h => ⟨h, rfl, rfl⟩)
  refine h.use ?_ ?_
  · rintro v w' ⟨hb, rfl, e⟩; rw [e]; exact h1 hb
  · rintro v w' ⟨hb, rfl, e⟩; rw [e]; exact h2 hb
theorem mustE_c {e : Int} {Q : Ending → World → Prop} (h1 : e = 0 → Q (.returned (.tuple #[])) w) (h2 : ¬ e = 0 → Q (.panicked (errP e)) w) : Calls Tryz.prog 110 #[.int .i64 e] w Q := by
  have h : GetsX Tryz.prog 110 #[.int .i64 e] w (fun ch w' => ¬ e = 0 ∧ ch = errP e ∧ w' = w) (fun v w' => e = 0 ∧ v = .tuple #[] ∧ w' = w) := by
    apply call110
    exact Br.ne (fun h => ⟨h, rfl, rfl⟩) (fun h => ⟨h, rfl, rfl⟩)
  refine h.use ?_ ?_
  · rintro v w' ⟨hb, rfl, e⟩; rw [e]; exact h1 hb
  · rintro v w' ⟨hb, rfl, e⟩; rw [e]; exact h2 hb
theorem caughtP {r : Nat} {x : Rp} {sl sb : Sl} {e : Int} {Kr : World → Prop} (hw : Sat R (rpC r x sl sb :: Hs) w) (k : ∀ w, Sat R (rpC r (errR e) nilSl nilSl :: Hs) w → Kr w) :
    LeaveF Tryz.prog 39 [.pointer (some ⟨r, 0, none⟩)] (.panicking (errP e)) Kr w := by
  unfold LeaveF
  refine CallsD.mono (callP39 (some ⟨r, 0, none⟩) (.iface 27 (.int .i64 e)) Kr w ?_) ?_
  · refine ⟨true, fun w' _ => by kernel_rfl, Br.t rfl ?_⟩
    refine ⟨e, fun w' _ => by kernel_rfl, NilP.mk rfl ?_⟩
    refine store_rule hw (by kernel_rfl) rfl (by simp [Value.cells]) fun w hw => ?_
    exact k w (hw.re (rpC r (errR e) nilSl nilSl))
  · rintro e v w' ⟨hy, rfl, hk⟩
    exact ⟨hy, rfl, hk⟩
theorem caughtR {r : Nat} {Kr : World → Prop} (k : Kr w) : LeaveF Tryz.prog 39 [.pointer (some ⟨r, 0, none⟩)] .returning Kr w := by
  unfold LeaveF
  refine CallsD.mono (callR39 (some ⟨r, 0, none⟩) Kr w ?_) ?_
  · exact ⟨false, fun w' _ => by kernel_rfl, Br.f rfl k⟩
  · rintro e v w' ⟨hy, rfl, hk⟩
    exact ⟨hy, rfl, hk⟩
theorem qnew_spec (hw : Sat R Hs w) : Gets Tryz.prog 111 #[] w fun v w' => ∃ q, v = .pointer (some ⟨q, 0, none⟩) ∧ Sat R (QuAt q [] :: Hs) w' := by
  apply call111
  refine new_rule hw fun q w hw => ⟨q, rfl, Sat.qu.2 ⟨nilSl, ?_⟩⟩
  exact (OwnN.nil hw).swap
theorem bnew_spec (hw : Sat R Hs w) : Gets Tryz.prog 14 #[] w fun v w' => ∃ p, v = .pointer (some ⟨p, 0, none⟩) ∧ Sat R (BookAt p newBook :: Hs) w' := by
  apply call14
  refine new_rule hw fun m1 w hw => ?_
  have hw := MapAt.new (α := Int) rfl hw
  refine new_rule hw fun m2 w hw => ?_
  have hw := MapAt.new (α := Int) rfl hw
  refine new_rule hw fun p w hw => ⟨p, rfl, Sat.book.2 ⟨m1, m2, [], [], ⟨List.Perm.refl _, rfl⟩, ?_⟩⟩
  have hw : Sat R (pts p (bookC newBook m1 m2) :: MapAt (α := Int) m2 [] :: MapAt (α := Int) m1 [] :: Hs) w := hw
  have hw : Sat R (pts p (bookC newBook m1 m2) :: MapAt (α := Int) m1 [] :: MapAt (α := Int) m2 [] :: Hs) w := hw.arr
  exact hw.cons fun _ h => h.cons fun _ h => h.cons fun _ h => Sat.star.2 (Sat.star.2 h)
end Go.Proofs.YtfgbbckfikiomaaGreatDoor
/- Package booking: a flight is opened. Condition: bounds. -/
namespace Go.Proofs.YtfgbbckfikiomaaGreatDoor
set_option linter.unusedVariables false
open Go Go.VC
open scoped Classical
variable {R : Cx} {Hs Rest : List HP} {w : World}
abbrev openR (c : Cm) : Rp := ⟨0, emS, 0, c.flt, 0, 0, 0, rleftsF (rnewF c.flt c.rows c.grps (limitsT (layN c.rows c.grps) c.parts).1), []⟩
set_option maxHeartbeats 1000000 in
theorem bopen_spec {p : Nat} {b : Book} {c : Cm} {sg sp : Sl} (hfl : b.fl.length ≤ 1000000) (hg : RoI R sg c.grps) (hp : SlR R.m sp (flts c.parts)) (hw : Sat R (BookAt p b :: Hs) w) :
    GetsX Tryz.prog 42 #[.pointer (some ⟨p, 0, none⟩), .agg #[.int .i64 c.kind, .string c.pnr, .int .i64 c.flt, .int .i64 c.cls, .int .i64 c.many, .int .i64 c.time, .float .f64 c.sc, .string c.lab, .int .i64 c.rows, .slice sg.a sg.len sg.cap, .slice sp.a sp.len sp.cap]] w
      (fun ch w' => ∃ e, ch = errP e ∧ openB b c = (b, errR e) ∧ Sat R (BookAt p b :: Hs) w')
      (fun v w' => (openB b c).2 = openR c ∧ ∃ sl : Sl, v = .agg (rpV (openR c) sl nilSl).toArray ∧ Sat R (Own sl 3 (intsI (openR c).left) :: BookAt p (openB b c).1 :: Hs) w') := by
  apply call42
  suffices H : ∀ (X : List PanicEntry → World → Prop) (K : Value → World → Prop), (∀ e w', openB b c = (b, errR e) → Sat R (BookAt p b :: Hs) w' → X (errP e) w') →
      (∀ sl w', (openB b c).2 = openR c → Sat R (Own sl 3 (intsI (openR c).left) :: BookAt p (openB b c).1 :: Hs) w' → K (.agg (rpV (openR c) sl nilSl).toArray) w') → B42 (some ⟨p, 0, none⟩) c.kind c.pnr c.flt c.cls c.many c.time c.sc c.lab c.rows sg sp X K w from
    H _ _ (fun e w' h1 h2 => ⟨e, rfl, h1, h2⟩) (fun sl w' h1 h2 => ⟨h1, sl, rfl, h2⟩)
  intro X K hX hK
  obtain ⟨m1, m2, fs, xs, hl, hw⟩ := Sat.book.1 hw
  have hlen := fl_len hl
  refine new_rule hw fun b3 w hw => new_rule hw fun b4 w hw => ?_
  have hw : Sat R (MapAt m1 (fs.map flV) :: pts p (bookC b m1 m2) :: cmC b3 c sg sp :: rpNew b4 :: MapAt m2 (xs.map bkV) :: FlsAt fs :: BksAt xs :: Hs) w := by
    have hw : Sat R (rpNew b4 :: cmC b3 c sg sp :: pts p (bookC b m1 m2) :: MapAt m1 (fs.map flV) :: MapAt m2 (xs.map bkV) :: FlsAt fs :: BksAt xs :: Hs) w := hw
    exact hw.arr
  have close : ∀ {w}, Sat R (MapAt m1 (fs.map flV) :: pts p (bookC b m1 m2) :: cmC b3 c sg sp :: rpNew b4 :: MapAt m2 (xs.map bkV) :: FlsAt fs :: BksAt xs :: Hs) w → Sat R (BookAt p b :: Hs) w := fun {w} hw => by
    have hw : Sat R (cmC b3 c sg sp :: rpNew b4 :: pts p (bookC b m1 m2) :: MapAt m1 (fs.map flV) :: MapAt m2 (xs.map bkV) :: FlsAt fs :: BksAt xs :: Hs) w := hw.arr
    exact Sat.book.2 ⟨m1, m2, fs, xs, hl, hw.drop.drop⟩
  refine drw_ruleT hw fun w hw => ?_
  refine NilP.mk rfl ⟨some m1, At.own (fun _ h => h) (by exact ⟨rfl, trivial⟩), c.flt, At.own (fun _ h => h) (by exact ⟨rfl, trivial⟩), ?_⟩
  have look : ∀ w', Sat R (VC.tru :: MapAt m1 (fs.map flV) :: pts p (bookC b m1 m2) :: cmC b3 c sg sp :: rpNew b4 :: MapAt m2 (xs.map bkV) :: FlsAt fs :: BksAt xs :: Hs) w' →
      (Instr.lookup 77 (.map (some m1)) (.int .i64 c.flt) true).run Tryz.prog w' = .ok (.tuple #[(getM c.flt (fs.map flV)).getD (.agg #[.pointer none, .pointer none]), .bool (getM c.flt (fs.map flV)).isSome]) w' := fun w' h =>
    MapAt.look pMap h.swap c.flt true
  obtain ⟨v1, v2, hv⟩ : ∃ v1 v2 : Option Addr, (getM c.flt (fs.map flV)).getD (.agg #[.pointer none, .pointer none]) = .agg #[.pointer v1, .pointer v2] := by
    cases hgm : getM c.flt (fs.map flV) with
    | none => exact ⟨none, none, rfl⟩
    | some v =>
      obtain ⟨A, C, e, _⟩ := getM_split hgm
      have : (c.flt, v) ∈ fs.map flV := by rw [e]; simp
      obtain ⟨x, _, hx⟩ := List.mem_map.1 this
      have hx2 := congrArg Prod.snd hx
      exact ⟨_, _, hx2.symm⟩
  rw [hv] at look
  refine ⟨v1, v2, _, look, ?_⟩
  refine new_rule hw fun b5 w hw => ⟨hw.absorb, ?_⟩
  refine store_rule hw (by kernel_rfl) rfl (by simp [Value.cells]) fun w hw => ?_
  have hw := hw.drop.drop
  have hat := fl_none hl (n := c.flt)
  refine need_c (fun hn => .inl ⟨rfl, ?_⟩) (fun hn => .inr ⟨_, rfl, hX 7 w ?_ (close hw)⟩)
  rotate_left
  · unfold openB
    rw [if_pos]
    cases hba : b.at c.flt with
    | none => rw [hat.2 hba] at hn; cases hn
    | some _ => rfl
  have hno : getM c.flt (fs.map flV) = none := by
    cases hgm : getM c.flt (fs.map flV) with
    | none => rfl
    | some v => rw [hgm] at hn; cases hn
  have hba := hat.1 hno
  have o1 : ¬ (b.at c.flt).isSome = true := by rw [hba]; simp
  refine NilP.mk rfl ⟨some m1, At.own (eqS hw) (by exact ⟨rfl, trivial⟩), ((fs.map flV).length : Int), fun w' e => ?_, ?_⟩
  · rw [show w' = w from e]
    exact MapAt.len (by kernel_rfl) hw
  rw [List.length_map, hlen]
  refine need_c (fun hn8 => .inl ⟨rfl, ?_⟩) (fun hn8 => .inr ⟨_, rfl, hX 3 w ?_ (close hw)⟩)
  rotate_left
  · have := of_decide_eq_false hn8
    unfold openB
    rw [if_neg o1, if_pos (by omega)]
  have h8 := of_decide_eq_true hn8
  have o2 : ¬ 8 ≤ b.fl.length := by omega
  refine ⟨c.flt, At.own (eqS hw) (by exact ⟨rfl, trivial⟩), c.rows, sg, At.own (eqS hw) (by exact ⟨rfl, rfl, trivial⟩), sp, At.own (eqS hw) (by exact ⟨rfl, trivial⟩), ?_⟩
  refine (fnew_spec' hg hp hw).use ?_
  clear hw
  rintro _ w (⟨hn, rfl, hw⟩ | ⟨hn, f, rfl, hw⟩)
  · refine .inl ⟨none, 1, rfl, mustE_c (fun h => by cases h) (fun _ => .inr ⟨_, rfl, hX 1 w ?_ (close hw)⟩)⟩
    unfold openB
    rw [if_neg o1, if_neg o2, if_pos hn]
  have hopen : openB b c = ({ b with fl := kins Pl.n ⟨rnewF c.flt c.rows c.grps (limitsT (layN c.rows c.grps) c.parts).1, []⟩ b.fl }, openR c) := by
    unfold openB
    rw [if_neg o1, if_neg o2, if_neg (fun h => h hn)]
  obtain ⟨r, hr⟩ : ∃ r, r = rnewF c.flt c.rows c.grps (limitsT (layN c.rows c.grps) c.parts).1 := ⟨_, rfl⟩
  have hw : Sat R (LoneAt f r :: MapAt m1 (fs.map flV) :: pts p (bookC b m1 m2) :: cmC b3 c sg sp :: rpNew b4 :: MapAt m2 (xs.map bkV) :: FlsAt fs :: BksAt xs :: Hs) w := by
    rw [hr]
    exact Sat.lone.2 ⟨_, ⟨tie_new, good_new hn⟩, hw⟩
  rw [← hr] at hopen
  refine .inl ⟨some ⟨f, 0, none⟩, 0, rfl, mustE_c (fun _ => .inl ⟨rfl, ?_⟩) (fun h => absurd rfl h)⟩
  refine drw_rule' (Sat R [cmC b3 c sg sp, pts p (bookC b m1 m2), VC.tru]) hw (fun w hw => ?_) fun w hw => ?_
  · exact (hw.arr (Hs' := cmC b3 c sg sp :: pts p (bookC b m1 m2) :: LoneAt f r :: MapAt m1 (fs.map flV) :: rpNew b4 :: MapAt m2 (xs.map bkV) :: FlsAt fs :: BksAt xs :: Hs)).cons fun _ h => h.restTru2
  refine NilP.mk rfl ⟨some m1, At.own (fun _ h => h) (by exact ⟨rfl, trivial⟩), c.flt, At.own (fun _ h => h) (by exact ⟨rfl, trivial⟩), ?_⟩
  refine (qnew_spec hw).use ?_
  clear hw
  rintro _ w ⟨q, rfl, hw⟩
  refine .inl ⟨_, rfl, ?_, ?_⟩
  · exact (hw.arr (Hs' := cmC b3 c sg sp :: pts p (bookC b m1 m2) :: QuAt q [] :: LoneAt f r :: MapAt m1 (fs.map flV) :: rpNew b4 :: MapAt m2 (xs.map bkV) :: FlsAt fs :: BksAt xs :: Hs)).cons fun _ h => h.restTru2
  have hw : Sat R (MapAt m1 (fs.map flV) :: LoneAt f r :: QuAt q [] :: FlsAt fs :: pts p (bookC b m1 m2) :: cmC b3 c sg sp :: rpNew b4 :: MapAt m2 (xs.map bkV) :: BksAt xs :: Hs) w := hw.arr
  refine MapAt.put pMap hw c.flt (.agg #[.pointer (some ⟨f, 0, none⟩), .pointer (some ⟨q, 0, none⟩)]) fun w hw => ?_
  have hput : putM c.flt (.agg #[.pointer (some ⟨f, 0, none⟩), .pointer (some ⟨q, 0, none⟩)]) (fs.map flV) = (fs ++ [((f, q, ⟨r, []⟩) : FE)]).map flV := by
    unfold putM
    rw [hno]
    have : r.num = c.flt := by rw [hr]; rfl
    simp only [Option.isSome_none, Bool.false_eq_true, if_false, List.map_append, List.map_cons, List.map_nil, flV, Pl.n, this]
  rw [hput] at hw
  refine drw_rule' (Sat R [cmC b3 c sg sp, VC.tru]) hw (fun w hw => ?_) fun w hw => ?_
  · exact (hw.arr (Hs' := cmC b3 c sg sp :: MapAt m1 ((fs ++ [((f, q, ⟨r, []⟩) : FE)]).map flV) :: LoneAt f r :: QuAt q [] :: FlsAt fs :: pts p (bookC b m1 m2) :: rpNew b4 :: MapAt m2 (xs.map bkV) :: BksAt xs :: Hs)).restTru2
  refine ⟨c.flt, At.own (fun _ h => h) (by exact ⟨rfl, trivial⟩), ?_⟩
  have hw : Sat R (LoneAt f r :: MapAt m1 ((fs ++ [((f, q, ⟨r, []⟩) : FE)]).map flV) :: QuAt q [] :: FlsAt fs :: pts p (bookC b m1 m2) :: cmC b3 c sg sp :: rpNew b4 :: MapAt m2 (xs.map bkV) :: BksAt xs :: Hs) w := hw.swap
  refine (lone_left hw).use ?_
  clear hw
  rintro _ w ⟨sl, rfl, hw⟩
  refine .inl ⟨sl, rfl, ?_, ?_⟩
  · exact (hw.arr (Hs' := cmC b3 c sg sp :: Own sl 3 (intsI (rleftsF r)) :: LoneAt f r :: MapAt m1 ((fs ++ [((f, q, ⟨r, []⟩) : FE)]).map flV) :: QuAt q [] :: FlsAt fs :: pts p (bookC b m1 m2) :: rpNew b4 :: MapAt m2 (xs.map bkV) :: BksAt xs :: Hs)).restTru2
  refine store_rule hw (by kernel_rfl) rfl (by simp [Value.cells]) fun w hw => ?_
  have hw := hw.re (rpC b4 (openR c) sl nilSl)
  refine ⟨0, emS, 0, c.flt, 0, 0, 0, sl, nilSl, At.own (eqS hw) (by exact ⟨rfl, rfl, rfl, rfl, rfl, rfl, rfl, rfl, rfl, trivial⟩), ?_⟩
  have hw : Sat R (Own sl 3 (intsI (rleftsF r)) :: pts p (bookC b m1 m2) :: MapAt m1 ((fs ++ [((f, q, ⟨r, []⟩) : FE)]).map flV) :: MapAt m2 (xs.map bkV) :: LoneAt f r :: QuAt q [] :: FlsAt fs :: BksAt xs :: rpC b4 (openR c) sl nilSl :: cmC b3 c sg sp :: Hs) w := hw.arr
  refine hK sl w (by rw [hopen]) ?_
  rw [hopen]
  dsimp only
  rw [← hr]
  refine hw.cons fun _ hw => Sat.book.2 ⟨m1, m2, fs ++ [((f, q, ⟨r, []⟩) : FE)], xs, ⟨?_, hl.bk⟩, ?_⟩
  · rw [List.map_append]
    refine (List.perm_append_singleton _ _).trans (List.Perm.trans (hl.fl.cons _) kins_perm.symm)
  · refine hw.cons fun _ h => h.cons fun _ h => h.cons fun _ h => ?_
    exact (FlsAt.snoc h).cons fun _ h => h.cons fun _ h => h.drop.drop
end Go.Proofs.YtfgbbckfikiomaaGreatDoor
/- Chapter 18: a flight is opened in a book of nothing: awake. Condition: none. -/
namespace Go.Proofs.YtfgbbckfikiomaaGreatDoor
set_option linter.unusedVariables false
open Go Go.VC
open scoped Classical
variable {R : Cx} {Hs Rest : List HP} {w : World}
set_option maxHeartbeats 1000000 in
theorem bapply1_spec {p : Nat} {b : Book} {c : Cm} {sg sp : Sl} (hk : c.kind = 1) (hr : RightC c) (hfl : b.fl.length ≤ 1000000) (hg : RoI R sg c.grps) (hp : SlR R.m sp (flts c.parts)) (hw : Sat R (BookAt p b :: Hs) w) :
    Gets Tryz.prog 15 #[.pointer (some ⟨p, 0, none⟩), .agg #[.int .i64 c.kind, .string c.pnr, .int .i64 c.flt, .int .i64 c.cls, .int .i64 c.many, .int .i64 c.time, .float .f64 c.sc, .string c.lab, .int .i64 c.rows, .slice sg.a sg.len sg.cap, .slice sp.a sp.len sp.cap]] w
      fun v w' => ∃ sl : Sl, v = .agg (rpV (openB b c).2 sl nilSl).toArray ∧ Sat R (Own sl 3 (intsI (openB b c).2.left) :: BookAt p (openB b c).1 :: Hs) w' := by
  have hplen : sp.len = c.parts.length := by have := hp.len; simpa using this
  have hgl : c.grps.length ≤ 100000 := by have := hr.gl; omega
  apply call15
  refine new_rule hw fun b3 w hw => new_rule hw fun b4 w hw => ?_
  have hw : Sat R (rpNew b4 :: cmC b3 c sg sp :: BookAt p b :: Hs) w := hw
  refine ⟨c.kind, c.pnr, c.flt, c.cls, c.many, c.time, c.sc, c.lab, c.rows, sg, sp, At.own (eqS hw) (by exact ⟨rfl, rfl, rfl, rfl, rfl, rfl, rfl, rfl, rfl, rfl, rfl, trivial⟩), ?_⟩
  refine (bright_spec hg hgl hplen hw).use ?_
  clear hw
  rintro _ w ⟨rfl, hw⟩
  refine .inl ⟨_, rfl, need_c (fun _ => .inl ⟨rfl, ?_⟩) (fun h => absurd hr (of_decide_eq_false h))⟩
  refine ⟨c.kind, At.own (eqS hw) (by exact ⟨rfl, trivial⟩), Br.e (fun _ => ?_) (fun h => absurd hk h)⟩
  refine ⟨c.kind, c.pnr, c.flt, c.cls, c.many, c.time, c.sc, c.lab, c.rows, sg, sp, At.own (eqS hw) (by exact ⟨rfl, rfl, rfl, rfl, rfl, rfl, rfl, rfl, rfl, rfl, rfl, trivial⟩), ?_⟩
  have hw : Sat R (BookAt p b :: rpNew b4 :: cmC b3 c sg sp :: Hs) w := hw.arr
  refine (bopen_spec hfl hg hp hw).use ?_ ?_
  · clear hw
    rintro _ w ⟨he, sl, rfl, hw⟩
    refine .inl ⟨0, emS, 0, c.flt, 0, 0, 0, sl, nilSl, rfl, ?_⟩
    refine store_rule hw (by kernel_rfl) rfl (by simp [Value.cells]) fun w hw => ?_
    have hw := hw.re (rpC b4 (openR c) sl nilSl)
    refine caughtR ⟨0, emS, 0, c.flt, 0, 0, 0, sl, nilSl, At.own (eqS hw) (by exact ⟨rfl, rfl, rfl, rfl, rfl, rfl, rfl, rfl, rfl, trivial⟩), sl, ?_, ?_⟩
    · rw [he]
    · rw [he]
      have hw : Sat R (Own sl 3 (intsI (openR c).left) :: BookAt p (openB b c).1 :: rpC b4 (openR c) sl nilSl :: cmC b3 c sg sp :: Hs) w := hw.arr
      exact hw.cons fun _ h => h.cons fun _ h => h.drop.drop
  · clear hw
    rintro _ w ⟨e, rfl, he, hw⟩
    refine .inr ⟨_, rfl, ?_⟩
    have hw : Sat R (rpNew b4 :: BookAt p b :: cmC b3 c sg sp :: Hs) w := hw.swap
    refine caughtP hw fun w hw => ⟨e, emS, 0, 0, 0, 0, 0, nilSl, nilSl, At.own (eqS hw) (by exact ⟨rfl, rfl, rfl, rfl, rfl, rfl, rfl, rfl, rfl, trivial⟩), nilSl, ?_, ?_⟩
    · rw [he]; rfl
    · rw [he]
      exact Own.nil (hw.drop.cons fun _ h => h.drop)
def aw18 : Cm := ⟨1, ByteArray.mk #[], 7, 0, 0, 0, 0, ByteArray.mk #[], 1, [2], [4607182418800017408]⟩
theorem aw18_lims : limitsT (layN 1 [2]) [4607182418800017408] = ([2], 0) := by kernel_rfl
theorem aw18_left : rleftsF (rnewF 7 1 [2] [2]) = [2] := by kernel_rfl
theorem aw18_ok : newOk 7 1 [2] [4607182418800017408] := ⟨by omega, by omega, by kernel_rfl, by rw [aw18_lims]⟩
theorem aw18_right : RightC aw18 := by
  refine ⟨?_, ?_, ?_, ?_, ?_, ?_, ?_, ?_, ?_, ?_, ?_⟩ <;> unfold aw18 <;> try (unfold numOk) <;> try (simp only; omega)
  · intro n hn
    simp only [List.mem_singleton] at hn
    subst hn; omega
  all_goals first | (show (0 : Nat) ≤ 16; omega) | simp
theorem aw18_open : (openB newBook aw18).2 = ⟨0, emS, 0, 7, 0, 0, 0, [2], []⟩ := by
  have h1 : ¬ (newBook.at aw18.flt).isSome = true := by
    show ¬ (kget Pl.n 7 []).isSome = true
    unfold kget
    simp
  unfold openB
  rw [if_neg h1, if_neg (by show ¬ 8 ≤ 0; omega), if_neg (fun h => h aw18_ok)]
  show (⟨0, emS, 0, 7, 0, 0, 0, rleftsF (rnewF 7 1 [2] (limitsT (layN 1 [2]) [4607182418800017408]).1), []⟩ : Rp) = _
  rw [aw18_lims, aw18_left]
theorem lopen_spec (hw : Sat R Hs w) : Gets Tryz.prog 38 #[] w fun v w' => ∃ sg sp : Sl, v = .agg (cmV aw18 sg sp).toArray ∧ Sat R (Own sg 3 (intsI aw18.grps) :: Own sp 33 (flts aw18.parts) :: Hs) w' := by
  apply call38
  refine new_rule hw fun b w hw => new_rule hw fun x w hw => new_rule hw fun y w hw => ?_
  have hw : Sat R (pts y (.cells (flts [4607182418800017408]).toArray 33 (0, 0)) :: pts x (.cells (intsI [2]).toArray 3 (0, 0)) :: cmNew b :: Hs) w := hw
  have hw : Sat R (cmNew b :: pts y (.cells (flts [4607182418800017408]).toArray 33 (0, 0)) :: pts x (.cells (intsI [2]).toArray 3 (0, 0)) :: Hs) w := hw.arr
  refine store_rule hw (by kernel_rfl) rfl (by simp [Value.cells]) fun w hw => ?_
  have hw := hw.re (cmC b aw18 ⟨some ⟨x, 0, none⟩, 1, 1⟩ ⟨some ⟨y, 0, none⟩, 1, 1⟩)
  refine ⟨_, _, _, _, _, _, _, _, _, ⟨some ⟨x, 0, none⟩, 1, 1⟩, ⟨some ⟨y, 0, none⟩, 1, 1⟩, At.own (eqS hw) (by exact ⟨rfl, rfl, rfl, rfl, rfl, rfl, rfl, rfl, rfl, rfl, rfl, trivial⟩), ⟨some ⟨x, 0, none⟩, 1, 1⟩, ⟨some ⟨y, 0, none⟩, 1, 1⟩, rfl, ?_⟩
  exact (own_lit (n := 1) (hw.drop.swap)).cons fun _ h => own_lit (n := 1) h
theorem aw18_spec (hw : Sat R Hs w) : Gets Tryz.prog 12 #[] w fun v w' => v = .bool true ∧ Sat R Hs w' := by
  apply call12
  refine (bnew_spec hw).use ?_
  clear hw
  rintro _ w ⟨p, rfl, hw⟩
  refine ⟨_, rfl, Br.f rfl ?_⟩
  refine (lopen_spec hw).use ?_
  clear hw
  rintro _ w ⟨sg, sp, rfl, hw⟩
  obtain ⟨R1, e1, g1, hw⟩ := Own.leak hw
  obtain ⟨R2, e2, g2, hw⟩ := Own.leak hw
  refine ⟨_, _, _, _, _, _, _, _, _, sg, sp, rfl, ?_⟩
  refine (bapply1_spec (c := aw18) rfl aw18_right (by show 0 ≤ 1000000; omega) (e2.ro (g1.ro (by unfold aw18; simp))) g2 hw).use ?_
  clear hw
  rintro _ w ⟨sl, rfl, hw⟩
  rw [aw18_open] at hw ⊢
  refine ⟨_, _, _, _, _, _, _, sl, nilSl, rfl, ?_⟩
  refine new_rule hw fun b w hw => ?_
  refine store_rule hw (by kernel_rfl) rfl (by simp [Value.cells]) fun w hw => ?_
  have hw := hw.re (rpC b ⟨0, emS, 0, 7, 0, 0, 0, [2], []⟩ sl nilSl)
  refine ⟨0, At.own (eqS hw) (by exact ⟨rfl, trivial⟩), Br.e (fun _ => ?_) (fun h => absurd rfl h)⟩
  have hw := hw.swap
  have hsl := Own.len hw
  have hsl : sl.len = 1 := hsl
  refine ⟨sl, At.own (eqS hw) (by exact ⟨rfl, trivial⟩), Br.e (fun _ => ?_) (fun h => absurd (by rw [hsl]; rfl) h)⟩
  refine ⟨sl, At.own (eqS hw) (by exact ⟨rfl, trivial⟩), Own.ix (xs := [2]) hw (eqS hw) 0 rfl (by simp) ⟨rfl, ?_⟩⟩
  exact e1.back (e2.back hw.drop.drop.drop)
end Go.Proofs.YtfgbbckfikiomaaGreatDoor

/- Chapter 18: BookingReplies. Condition: bounds on lengths. -/
namespace Go.Proofs.YtfgbbckfikiomaaGreatDoor
set_option linter.unusedVariables false
open Go Go.VC
open scoped Classical
variable {R : Cx} {Hs Rest : List HP} {w : World}
theorem rpB_len {r : Rp} (hi : RpW r) : (rpB r).length ≤ 9223372036854775807 := by
  have i1 := hi.ints
  have i2 := hi.pnr
  have i3 := hi.ll
  have i4 := hi.bl
  have q : ∀ x ∈ [r.code, r.state, r.flt, r.cls, r.many, r.time] ++ r.left, 0 ≤ nn x ∧ nn x < 18446744073709551616 := fun x hx => by have := nn_bd (i1 x hx); omega
  have l1 := nums1_len (q r.code (by simp))
  have l2 := strB_len (s := r.pnr) i2
  have l3 := nums1_len (q r.state (by simp))
  have l4 := nums1_len (q r.flt (by simp))
  have l5 := nums1_len (q r.cls (by simp))
  have l6 := nums1_len (q r.many (by simp))
  have l7 := nums1_len (q r.time (by simp))
  have l10 := nums1_len (x := (r.left.length : Int)) (by omega)
  have l11 := numsB_len (l := r.left.map nn) fun y hy => by obtain ⟨x, hx, rfl⟩ := List.mem_map.1 hy; exact q x (by simp [hx])
  rw [List.length_map] at l11
  have l12 := nums1_len (x := (r.labs.length : Int)) (by omega)
  have hfl := flat_len (l := r.labs) (code := strB) (m := 100009) fun x hx => by have := hi.labs x hx; have := strB_len this; omega
  unfold rpB
  simp only [List.length_append]
  omega
theorem rpDec_len {bs : List Int} (hb : Bytes bs) : (rpDec bs).1.left.length ≤ 8 ∧ (rpDec bs).1.labs.length ≤ 600 := by
  unfold rpDec
  split
  · have b1 := rdNum_bd (most := MI) (rd := ⟨bs, false⟩) hb
    have b2 := strRd_bd (most := 16) b1
    have b3 := hd5_bd b2
    have v1 := rdNum_val (most := 8) b3 (by omega)
    have b4 := rdNum_bd (most := 8) b3
    have b5 := (rdEach_inv (one := rdNum MI) (P := fun r => Bytes r.bs) (Q := fun _ => True) (fun r hr => ⟨trivial, rdNum_bd hr⟩) (rdNum 8 (hd5 (strRd 16 (rdNum MI ⟨bs, false⟩).2).2).2).1.toNat b4).2
    have v2 := rdNum_val (most := 600) b5 (by omega)
    rw [rpRd_hd]
    dsimp only
    rw [rdEach_len, rdEach_len]
    omega
  · exact ⟨by show 0 ≤ 8; omega, by show 0 ≤ 600; omega⟩
set_option maxHeartbeats 1000000 in
theorem breplies_lspec {r : Rp} {sl sb s : Sl} {bs : List Int} (hi : ∀ x ∈ [r.code, r.state, r.flt, r.cls, r.many, r.time] ++ r.left, x < 9223372036854775808) (hg : RoI R sl r.left) (hp : SlR R.m sb (r.labs.map Value.string)) (hs : SlR R.m s (b8 bs)) (hb : Bytes bs) (hw : Sat R Hs w) :
    Gets Tryz.prog 7 #[.agg #[.int .i64 r.code, .string r.pnr, .int .i64 r.state, .int .i64 r.flt, .int .i64 r.cls, .int .i64 r.many, .int .i64 r.time, .slice sl.a sl.len sl.cap, .slice sb.a sb.len sb.cap], .slice s.a s.len s.cap] w fun v w' => v = .bool true ∧ Sat R Hs w' := by
  have hplen : sb.len = r.labs.length := by have := hp.len; simpa using this
  have hglen := hg.len
  have hslen : s.len = bs.length := by have := hs.len; simpa using this
  apply call7
  suffices H : ∀ K : Value → World → Prop, (∀ w', Sat R Hs w' → K (.bool true) w') → B7 r.code r.pnr r.state r.flt r.cls r.many r.time sl sb s K w from H _ fun w' h => ⟨rfl, h⟩
  intro K hK
  refine new_rule hw fun b2 w hw => ?_
  have hw : Sat R (rpC b2 r sl sb :: Hs) w := hw
  refine (aw18_spec hw).use ?_
  clear hw
  rintro _ w ⟨rfl, hw⟩
  refine ⟨_, rfl, fun w => (r.left.length ≤ 1000 ∧ r.labs.length ≤ 1000 ∧ bs.length ≤ 20000 ∧ r.pnr.size ≤ 1000) ∧ Sat R (rpC b2 r sl sb :: Hs) w, Br.f rfl ?_, ?_⟩
  · refine ⟨sl, At.own (eqS hw) (by exact ⟨rfl, trivial⟩), Br.d (fun _ => hK _ hw.drop) (fun h1 => ?_)⟩
    refine ⟨sb, At.own (eqS hw) (by exact ⟨rfl, trivial⟩), Br.d (fun _ => hK _ hw.drop) (fun h2 => Br.d (fun _ => hK _ hw.drop) (fun h3 => ?_))⟩
    refine ⟨r.pnr, At.own (eqS hw) (by exact ⟨rfl, trivial⟩), Br.d (fun _ => hK _ hw.drop) (fun h4 => ⟨⟨by omega, by omega, by omega, by omega⟩, hw⟩)⟩
  clear hw
  rintro _ w ⟨⟨h1, h2, h3, h4⟩, hw⟩
  refine ⟨fun i w => ∃ k : Nat, i = k ∧ k ≤ r.labs.length ∧ (∀ x ∈ r.labs.take k, x.size ≤ 1000) ∧ Sat R (rpC b2 r sl sb :: Hs) w, fun i _ => r.labs.length - i.toNat, ⟨0, rfl, by omega, by simp, hw⟩, ?_⟩
  clear hw
  rintro _ _ w ⟨k, rfl, hk, hsz, hw⟩
  refine ⟨sb, At.own (eqS hw) (by exact ⟨rfl, trivial⟩), Br.d (fun h => ?_) (fun h => ?_)⟩
  · have hkx : k < r.labs.length := by omega
    refine ⟨sb, At.own (eqS hw) (by exact ⟨rfl, trivial⟩), Ro.ixStr (hp.ro (by rw [List.length_map]; omega)) (eqS hw) k rfl hkx ?_⟩
    refine Br.d (fun _ => hK _ hw.drop) (fun h5 => ?_)
    rw [wrap64 (by omega) (by omega)]
    refine ⟨⟨k + 1, by omega, by omega, fun x hx => ?_, hw⟩, by dsimp only; omega⟩
    rw [List.take_add_one, List.getElem?_eq_getElem hkx] at hx
    rcases List.mem_append.1 hx with hx | hx
    · exact hsz x hx
    · rw [show x = r.labs[k] by simpa using hx]
      omega
  rw [List.take_of_length_le (by omega)] at hsz
  have hW : RpW r := ⟨hi, by omega, by omega, by omega, fun x hx => by have := hsz x hx; omega⟩
  clear hk h
  refine ⟨r.code, r.pnr, r.state, r.flt, r.cls, r.many, r.time, sl, sb, At.own (eqS hw) (by exact ⟨rfl, rfl, rfl, rfl, rfl, rfl, rfl, rfl, rfl, trivial⟩), ?_⟩
  refine (banswer_spec hW hg hp hw).use ?_
  clear hw
  rintro _ w ⟨t1, rfl, hw⟩
  refine ⟨t1, rfl, ?_⟩
  refine (bread_spec hb (by omega) (hs.ro (by rw [List.length_map]; omega)) hw).use ?_
  clear hw
  rintro _ w ⟨g1, p1, rfl, hw⟩
  have hr18 := fun {Hs : List HP} {w : World} (hw : Sat R Hs w) => r18read_spec hb (by omega) hs hw
  have hlb := rpDec_len hb
  generalize (rpDec bs).1 = C at *
  generalize (rpDec bs).2 = e at *
  refine ⟨C.code, C.pnr, C.state, C.flt, C.cls, C.many, C.time, g1, p1, e, rfl, ?_⟩
  refine new_rule hw fun y w hw => ?_
  refine store_rule hw (by kernel_rfl) rfl (by simp [Value.cells]) fun w hw => ?_
  have hw := hw.re (rpC y C g1 p1)
  refine (hr18 hw).use ?_
  clear hw
  rintro _ w ⟨g2, p2, rfl, hw⟩
  refine ⟨C.code, C.pnr, C.state, C.flt, C.cls, C.many, C.time, g2, p2, e, rfl, ?_⟩
  refine new_rule hw fun z w hw => ?_
  refine store_rule hw (by kernel_rfl) rfl (by simp [Value.cells]) fun w hw => ?_
  have hw := hw.re (rpC z C g2 p2)
  refine ⟨C.code, C.pnr, C.state, C.flt, C.cls, C.many, C.time, g1, p1, At.own (eqS hw) (by exact ⟨rfl, rfl, rfl, rfl, rfl, rfl, rfl, rfl, rfl, trivial⟩), ?_⟩
  refine ⟨C.code, C.pnr, C.state, C.flt, C.cls, C.many, C.time, g2, p2, At.own (eqS hw) (by exact ⟨rfl, rfl, rfl, rfl, rfl, rfl, rfl, rfl, rfl, trivial⟩), ?_⟩
  have hw : Sat R (Own g1 3 (intsI C.left) :: Own p1 9 (strs C.labs) :: Own g2 3 (intsI C.left) :: Own p2 9 (strs C.labs) :: Own t1 5 (b8 (rpB r)) :: rpC z C g2 p2 :: rpC y C g1 p1 :: rpC b2 r sl sb :: Hs) w := hw.arr
  obtain ⟨R1, e1, r1, hw⟩ := Own.leak hw
  obtain ⟨R2, e2, r2, hw⟩ := Own.leak hw
  obtain ⟨R3, e3, r3, hw⟩ := Own.leak hw
  obtain ⟨R4, e4, r4, hw⟩ := Own.leak hw
  refine (same18_spec (e4.ro (e3.ro (e2.ro (r1.ro (by rw [List.length_map]; omega))))) (e4.ro (r3.ro (by rw [List.length_map]; omega))) (e4.ro (e3.ro (r2.ro (by rw [List.length_map]; omega)))) (r4.ro (by rw [List.length_map]; omega)) hw).use ?_
  clear hw
  rintro _ w ⟨rfl, hw⟩
  rw [decide_eq_true rfl]
  refine ⟨_, rfl, ?_⟩
  have hl := rpB_len hW
  refine drw_rule' (Sat R4 [Own t1 5 (b8 (rpB r)), VC.tru]) hw (fun w hw => hw.restTru2) fun w hw => ?_
  refine ⟨VC.strOf (rpB r), fun w' h => ?_, ?_⟩
  · obtain ⟨_, q1, _, hw1, _⟩ := Own.lend h (by rw [List.length_map]; exact hl)
    exact convS_ro Tryz.underlying42 Tryz.underlying5 Tryz.underlying9 hw1 q1
  refine ⟨r.code, r.pnr, r.state, r.flt, r.cls, r.many, r.time, sl, sb, At.own (eqS hw) (by exact ⟨rfl, rfl, rfl, rfl, rfl, rfl, rfl, rfl, rfl, trivial⟩), ?_⟩
  refine (r18answer_spec hW (e4.ro (e3.ro (e2.ro (e1.ro hg)))) (e4.slR (e3.slR (e2.slR (e1.slR hp)))) hw).use ?_
  clear hw
  rintro _ w ⟨t2, rfl, hw⟩
  refine ⟨t2, rfl, hw.swap.restTru2, VC.strOf (rpB r), fun w' h => ?_, ?_⟩
  · rw [show w' = w from h]
    obtain ⟨_, q1, _, hw1, _⟩ := Own.lend hw (by rw [List.length_map]; exact hl)
    exact convS_ro Tryz.underlying42 Tryz.underlying5 Tryz.underlying9 hw1 q1
  refine Br.se (fun _ => Br.t rfl ?_) (fun h => absurd rfl h)
  rw [beq_self_eq_true]
  exact hK _ (e1.back (e2.back (e3.back (e4.back hw.drop.drop.drop.drop.drop))))
end Go.Proofs.YtfgbbckfikiomaaGreatDoor
/- ROW: from a reading of an argument to what the contracts ask; from a walk's end to 'Below'. No condition. -/
namespace Go.VC
set_option linter.unusedVariables false
open Go.ChangeShapes Go.WideShapes Go.ChangeAt Go.RowKit
theorem below_of {W W' : World} {Hs : List HP} (h : Sat (Cx.of W) Hs W') : Below W.heap.size W W' := by
  obtain ⟨h1, h2, h3⟩ := h.streams
  have hb : ∀ k, k < W.heap.size → W'.heap[k]? = W.heap[k]? := fun k hk => by
    have : (Cx.of W).m k = some W.heap[k] := by simp [Cx.of, hk]
    rw [h.of_ro this]; simp [hk]
  refine ⟨h1, h2, h3, ?_, hb⟩
  rcases Nat.lt_or_ge W'.heap.size W.heap.size with hl | hl
  · have := hb W'.heap.size hl
    rw [Array.getElem?_eq_none (Nat.le_refl _)] at this
    simp [hl] at this
  · exact hl
theorem block_of_cell {w : World} {a : Addr} {v : Value} (h : w.cell? a = some v) : a.spot = none ∧ ∃ l T fr, w.heap[a.block]? = some (.cells l T fr) ∧ l[a.off]? = some v := by
  unfold World.cell? at h
  split at h
  · rename_i c T fr hb
    split at h
    · cases h
    · rename_i hs
      exact ⟨by simpa using hs, c, T, fr, hb, h⟩
  · cases h
section
variable {H : Type} {enc : TypeId × Value → H} {P : Program} {W : World} {base : Nat} {spare : Nat → Bool} {held : Bool}
end
end Go.VC

/- ROW, part 3: arguments of any plain type (integers, bools, floats, strings, slices, structs, arrays of such), read as trees. No condition. -/
namespace Go.VC
set_option linter.unusedVariables false
open Go.ChangeShapes Go.WideShapes Go.ChangeAt Go.RowKit
inductive Tr where
  | int (k : IntKind) (n : Int) | bool (b : Bool) | flt (n : Nat) | str (s : ByteArray) | sl (s : Sl) (xs : List Tr) | st (xs : List Tr)
mutual
def Tr.cells : Tr → List Value
  | .int k n => [.int k n]
  | .bool b => [.bool b]
  | .flt n => [.float .f64 n]
  | .str s => [.string s]
  | .sl s _ => [.slice s.a s.len s.cap]
  | .st xs => Tr.cellsL xs
def Tr.cellsL : List Tr → List Value
  | [] => []
  | x :: xs => x.cells ++ Tr.cellsL xs
end
inductive U where
  | int (k : IntKind) | bool | flt | str | sl (u : U) | st (us : List U)
mutual
def U.size : U → Nat
  | .st us => U.sizeL us
  | _ => 1
def U.sizeL : List U → Nat
  | [] => 0
  | u :: us => u.size + U.sizeL us
end
mutual
def Tr.Ok (R : Cx) : U → Tr → Prop
  | .int k, .int k' n => k' = k ∧ (Lit.int k n).wf = true
  | .bool, .bool _ => True
  | .flt, .flt n => (Lit.float .f64 n).wf = true
  | .str, .str s => s.size ≤ maxLen
  | .sl u, .sl s xs => (RoN u.size R s (xs.map Tr.cells) ∧ s.len ≤ s.cap) ∧ xs.length ≤ maxLen ∧ Tr.OkA R u xs
  | .st us, .st xs => Tr.OkL R us xs
  | _, _ => False
def Tr.OkA (R : Cx) (u : U) : List Tr → Prop
  | [] => True
  | x :: xs => Tr.Ok R u x ∧ Tr.OkA R u xs
def Tr.OkL (R : Cx) : List U → List Tr → Prop
  | [], [] => True
  | u :: us, x :: xs => Tr.Ok R u x ∧ Tr.OkL R us xs
  | _, _ => False
end
theorem Tr.okA {R : Cx} {u : U} : ∀ {xs : List Tr}, Tr.OkA R u xs → ∀ x ∈ xs, Tr.Ok R u x
  | [], _, x, hx => by cases hx
  | y :: ys, h, x, hx => by
    unfold Tr.OkA at h
    rcases List.mem_cons.1 hx with rfl | hx
    · exact h.1
    · exact Tr.okA h.2 x hx
theorem Tr.okA_mk {R : Cx} {u : U} : ∀ {xs : List Tr}, (∀ x ∈ xs, Tr.Ok R u x) → Tr.OkA R u xs
  | [], _ => by unfold Tr.OkA; trivial
  | y :: ys, h => by
    unfold Tr.OkA
    exact ⟨h y List.mem_cons_self, Tr.okA_mk fun x hx => h x (List.mem_cons_of_mem _ hx)⟩
def fieldsU (P : Program) (f : TypeId → Option U) : Nat → List Field → Option (List U)
  | _, [] => some []
  | off, x :: xs => match Nat.beq x.offset off with
    | false => none
    | true => match f x.type with
      | none => none
      | some u => match Nat.beq (P.cellsOf x.type) u.size with
        | false => none
        | true => match fieldsU P f (off + u.size) xs with
          | none => none
          | some us => some (u :: us)
def uOf (P : Program) : Nat → TypeId → Option U
  | 0, _ => none
  | d + 1, t => match P.underlying t with
    | some (.int k) => some (.int k)
    | some .bool => some .bool
    | some (.float .f64) => some .flt
    | some .string => some .str
    | some (.slice e) => match uOf P d e with
      | some u => (match Nat.beq (P.cellsOf e) u.size && Nat.blt 0 u.size with | true => some (.sl u) | false => none)
      | none => none
    | some (.struct fs) => match fieldsU P (uOf P d) 0 fs.toList with
      | some us => (match Nat.beq (P.cellsOf t) (U.sizeL us) with | true => some (.st us) | false => none)
      | none => none
    | some (.array n e) => match uOf P d e with
      | some u => (match Nat.beq (P.cellsOf e) u.size && Nat.beq (P.cellsOf t) (n * u.size) with | true => some (.st (List.replicate n u)) | false => none)
      | none => none
    | _ => none
section
variable {H : Type} {enc : TypeId × Value → H} {P : Program} {W : World} {base : Nat} {spare : Nat → Bool} {held : Bool}
def IsTr (R : Cx) (u : U) (cs : List Value) : Prop := ∃ x : Tr, x.cells = cs ∧ x.Ok R u
theorem cells?_cell {w : World} {base : Nat} {a : Addr} {n : Nat} {cs : List Value} (h : w.cells? base a n = some cs) : cs.length = n ∧ ∀ i, i < n → w.cell? (a.add i) = cs[i]? := by
  unfold World.cells? at h
  split at h
  · refine ⟨by have := mapM_some_length h; simpa using this, fun i hi => mapM_some_get h i i (by simp [hi])⟩
  · cases h
theorem add_add (a : Addr) (i j : Nat) (hs : a.spot = none) : (a.add i).add j = ⟨a.block, a.off + (i + j), none⟩ := by
  obtain ⟨b, o, s⟩ := a
  simp only at hs
  subst hs
  rw [add_off, add_off, Nat.add_assoc]
theorem fields_read {d : Nat} (ih : ∀ {fuel : Nat} {t : TypeId} {cs : List Value} {y : DataW H × List MemPlace} {u : U}, uOf P d t = some u → DataW.trod enc P W base spare held fuel t cs = some y → IsTr (Cx.of W) u cs) {n : Nat} {cs : List Value} {xs : List (DataW H × List MemPlace)} :
    ∀ (fs : List Field) (off : Nat) (us : List U), fieldsU P (uOf P d) off fs = some us → (∀ (i : Nat) (f : Field), fs[i]? = some f → ∃ y, DataW.trod enc P W base spare held n f.type ((cs.drop f.offset).take (P.cellsOf f.type)) = some y) →
      off + U.sizeL us ≤ cs.length → ∃ ts : List Tr, Tr.cellsL ts = (cs.drop off).take (U.sizeL us) ∧ Tr.OkL (Cx.of W) us ts
  | [], off, us, h, _, _ => by
    simp only [fieldsU, Option.some.injEq] at h
    subst h
    exact ⟨[], by simp [Tr.cellsL, U.sizeL], by unfold Tr.OkL; trivial⟩
  | f :: fs, off, us, h, hf, hl => by
    unfold fieldsU at h
    split at h
    · cases h
    rename_i hoff
    have hoff := Nat.eq_of_beq_eq_true hoff
    split at h
    · cases h
    rename_i u hu
    split at h
    · cases h
    rename_i hc
    have hc := Nat.eq_of_beq_eq_true hc
    split at h
    · cases h
    rename_i us' hus
    cases h
    simp only [U.sizeL] at hl ⊢
    obtain ⟨y, hy⟩ := hf 0 f rfl
    obtain ⟨x, hx, hxo⟩ := ih hu hy
    obtain ⟨ts, hts, htso⟩ := fields_read ih (n := n) (xs := xs) fs (off + u.size) us' hus (fun i g hg => hf (i + 1) g (by simpa using hg)) (by omega)
    refine ⟨x :: ts, ?_, by unfold Tr.OkL; exact ⟨hxo, htso⟩⟩
    simp only [Tr.cellsL]
    rw [hx, hts, hoff, hc, List.take_add, List.drop_drop]
theorem reps_read {u : U} {n s : Nat} : ∀ {m : Nat} {cs : List Value}, cs.length = m * s → u.size = s → (∀ i, i < m → IsTr (Cx.of W) u ((cs.drop (i * s)).take s)) → ∃ ts : List Tr, Tr.cellsL ts = cs ∧ Tr.OkL (Cx.of W) (List.replicate m u) ts
  | 0, cs, hl, _, _ => by
    have : cs = [] := List.length_eq_zero_iff.1 (by simpa using hl)
    subst this
    exact ⟨[], rfl, by unfold Tr.OkL; trivial⟩
  | m + 1, cs, hl, hs, h => by
    obtain ⟨x, hx, hxo⟩ := h 0 (by omega)
    obtain ⟨ts, hts, htso⟩ := reps_read (n := n) (m := m) (cs := cs.drop s) (by rw [List.length_drop, hl, Nat.add_mul]; omega) hs (fun i hi => by
      have := h (i + 1) (by omega)
      rw [Nat.add_mul, Nat.one_mul, Nat.add_comm, ← List.drop_drop] at this
      exact this)
    refine ⟨x :: ts, ?_, by rw [List.replicate_succ]; unfold Tr.OkL; exact ⟨hxo, htso⟩⟩
    simp only [Tr.cellsL]
    rw [hx, hts]
    simp
theorem choose_list {α β : Type} {p : Nat → α → Prop} : ∀ {n : Nat}, (∀ i, i < n → ∃ x : α, p i x) → ∃ xs : List α, xs.length = n ∧ ∀ i (hi : i < xs.length), p i xs[i]
  | 0, _ => ⟨[], rfl, fun i hi => by simp at hi⟩
  | n + 1, h => by
    obtain ⟨xs, hl, hp⟩ := choose_list (β := β) (n := n) fun i hi => h i (by omega)
    obtain ⟨x, hx⟩ := h n (by omega)
    refine ⟨xs ++ [x], by simp [hl], fun i hi => ?_⟩
    by_cases h2 : i < xs.length
    · rw [List.getElem_append_left h2]; exact hp i h2
    · have : i = n := by simp at hi; omega
      subst this
      rw [List.getElem_append_right (by omega)]
      simpa using hx
theorem trod_f64 {fuel : Nat} {t : TypeId} {cs : List Value} {x : DataW H × List MemPlace} (ht : P.underlying t = some (.float .f64)) (h : DataW.trod enc P W base spare held fuel t cs = some x) : ∃ n, cs = [.float .f64 n] ∧ (Lit.float .f64 n).wf = true := by
  cases fuel with
  | zero => simp [DataW.trod] at h
  | succ n =>
    unfold DataW.trod at h
    rw [ht] at h
    split at h <;> simp_all
theorem tr_read : ∀ {d fuel : Nat} {t : TypeId} {cs : List Value} {y : DataW H × List MemPlace} {u : U}, uOf P d t = some u → DataW.trod enc P W base spare held fuel t cs = some y → IsTr (Cx.of W) u cs
  | 0, _, _, _, _, _, h, _ => by cases h
  | d + 1, fuel, t, cs, y, u, h, hy => by
    unfold uOf at h
    split at h
    · rename_i k ht
      cases h
      obtain ⟨n, rfl, _, hw⟩ := DataW.trod_int ht hy
      exact ⟨.int k n, rfl, rfl, hw⟩
    · rename_i ht
      cases h
      obtain ⟨b, rfl, _⟩ := DataW.trod_bool ht hy
      exact ⟨.bool b, rfl, by unfold Tr.Ok; trivial⟩
    · rename_i ht
      cases h
      obtain ⟨n, rfl, hn⟩ := trod_f64 ht hy
      exact ⟨.flt n, rfl, by unfold Tr.Ok; exact hn⟩
    · rename_i ht
      cases h
      obtain ⟨s, rfl, _, hs⟩ := DataW.trod_string ht hy
      exact ⟨.str s, rfl, hs⟩
    · rename_i e ht
      split at h
      case h_2 => cases h
      rename_i ue hue
      split at h
      case h_2 => cases h
      rename_i hc
      simp only [Bool.and_eq_true] at hc
      have hpos : 0 < ue.size := Nat.blt_eq.mp hc.2
      have hc := Nat.eq_of_beq_eq_true hc.1
      cases h
      rcases DataW.trod_slice ht hy with ⟨rfl, _⟩ | ⟨a, len, cap, elems, rest, n, _, rfl, _, _, hlc, hcm, hel, helem, _, _⟩
      · refine ⟨.sl ⟨none, 0, 0⟩ [], rfl, ?_⟩
        unfold Tr.Ok
        exact ⟨⟨⟨Wid.nil, rfl, fun h => absurd rfl h⟩, Nat.le_refl _⟩, Nat.zero_le _, by unfold Tr.OkA; trivial⟩
      · obtain ⟨xs, hxl, hxs⟩ := choose_list (β := Unit) (p := fun i (x : Tr) => W.cells? base (a.add (i * P.cellsOf e)) (P.cellsOf e) = some x.cells ∧ x.Ok (Cx.of W) ue) (n := len) fun i hi => by
          have h1 := helem i hi
          rw [List.getElem?_eq_getElem (by omega)] at h1
          obtain ⟨ce, hce, hte⟩ := Option.bind_eq_some_iff.1 h1
          obtain ⟨x, rfl, hx⟩ := tr_read hue hte
          exact ⟨x, hce, hx⟩
        refine ⟨.sl ⟨some a, len, cap⟩ xs, rfl, ?_⟩
        unfold Tr.Ok
        have hwid : Wid ue.size (xs.map Tr.cells) := fun r hr => by
          obtain ⟨x, hx, rfl⟩ := List.mem_map.1 hr
          obtain ⟨i, hi, rfl⟩ := List.getElem_of_mem hx
          have := (cells?_cell (hxs i hi).1).1
          rw [this, hc]
        refine ⟨⟨⟨hwid, by simp [hxl], fun hne => ?_⟩, hlc⟩, by omega, Tr.okA_mk fun x hx => by obtain ⟨i, hi, rfl⟩ := List.getElem_of_mem hx; exact (hxs i hi).2⟩
        -- the block
        have h0 : 0 < xs.length := by
          have : 0 < (xs.map Tr.cells).length := List.length_pos_iff.2 hne
          simpa using this
        have hcell : ∀ i (hi : i < xs.length) j, j < ue.size → W.cell? ((a.add (i * ue.size)).add j) = (xs[i].cells)[j]? := fun i hi j hj => by
          have := (cells?_cell (hxs i hi).1).2 j (by rw [hc]; exact hj)
          rw [hc] at this; exact this
        have hxl0 : ∀ i (hi : i < xs.length), (xs[i].cells).length = ue.size := fun i hi => by rw [(cells?_cell (hxs i hi).1).1, hc]
        have hc0 := hcell 0 h0 0 (by omega)
        rw [List.getElem?_eq_getElem (by rw [hxl0 0 h0]; omega)] at hc0
        have hz0 : (a.add (0 * ue.size)).add 0 = a := by rw [Nat.zero_mul]; simp [Addr.add]
        rw [hz0] at hc0
        obtain ⟨hs, l, T, fr, hl, _⟩ := block_of_cell hc0
        refine ⟨a.block, a.off, l, T, fr, by cases a; simp_all, hl, fun i v hv => ?_⟩
        -- which row, which place
        have hlen := hwid.len
        rw [List.length_map] at hlen
        have hi : i < (xs.map Tr.cells).flatten.length := (List.getElem?_eq_some_iff.1 hv).1
        have hq : i / ue.size < xs.length := by
          rw [hlen] at hi; exact Nat.div_lt_of_lt_mul (by rwa [Nat.mul_comm])
        have hm : i % ue.size < ue.size := Nat.mod_lt _ (by omega)
        have hcc := hcell (i / ue.size) hq (i % ue.size) hm
        rw [add_add a _ _ hs, show i / ue.size * ue.size + i % ue.size = i by rw [Nat.mul_comm]; exact Nat.div_add_mod _ _] at hcc
        have e1 : (xs.map Tr.cells).flatten[i]? = (xs[i / ue.size].cells)[i % ue.size]? := by
          have h1 : i = i / ue.size * ue.size + i % ue.size := by rw [Nat.mul_comm]; exact (Nat.div_add_mod _ _).symm
          conv => lhs; rw [h1]
          rw [← List.getElem?_drop, hwid.drop_flat, List.drop_eq_getElem_cons (by simpa using hq), List.flatten_cons, List.getElem?_append_left (by rw [List.getElem_map, hxl0 _ hq]; exact hm), List.getElem_map]
        rw [← e1, hv] at hcc
        simp only [World.cell?, hl, Option.isSome_none, Bool.false_eq_true, if_false] at hcc
        exact hcc
    · rename_i fs ht
      split at h
      case h_2 => cases h
      rename_i us hus
      split at h
      case h_2 => cases h
      rename_i hc
      have hc := Nat.eq_of_beq_eq_true hc
      cases h
      obtain ⟨xs, n, _, _, hl, hxl, hf⟩ := DataW.trod_struct ht hy
      obtain ⟨ts, hts, hto⟩ := fields_read (d := d) (fun h h2 => tr_read h h2) (n := n) (cs := cs) (xs := xs) fs.toList 0 us hus (fun i f hfi => by
        have hfi2 : fs[i]? = some f := by simpa using hfi
        have hlt : i < xs.length := by rw [hxl]; exact (Array.getElem?_eq_some_iff.1 hfi2).1
        exact ⟨xs[i], by rw [hf i f hfi2]; exact List.getElem?_eq_getElem hlt⟩) (by omega)
      refine ⟨.st ts, ?_, by unfold Tr.Ok; exact hto⟩
      unfold Tr.cells
      rw [hts, List.drop_zero, List.take_of_length_le (by omega)]
    · rename_i m e ht
      split at h
      case h_2 => cases h
      rename_i ue hue
      split at h
      case h_2 => cases h
      rename_i hc
      simp only [Bool.and_eq_true] at hc
      have hc1 := Nat.eq_of_beq_eq_true hc.1
      have hc2 := Nat.eq_of_beq_eq_true hc.2
      cases h
      obtain ⟨xs, n, _, _, hl, hxl, hf⟩ := DataW.trod_array ht hy
      obtain ⟨ts, hts, hto⟩ := reps_read (n := n) (u := ue) (s := ue.size) (m := m) (cs := cs) (by rw [hl, hc2]) rfl (fun i hi => by
        have := hf i hi
        rw [hc1, List.getElem?_eq_getElem (by omega)] at this
        exact tr_read hue this)
      exact ⟨.st ts, by unfold Tr.cells; exact hts, by unfold Tr.Ok; exact hto⟩
    · cases h
theorem tr_arg {d : Nat} {t : TypeId} {v : Value} {dt : DataW H} {p : List MemPlace} {u : U} (hu : uOf P d t = some u) (h : DataW.Trod enc P W base spare held t v dt p) : IsTr (Cx.of W) u v.cells.toList := by
  obtain ⟨fuel, hf⟩ := h
  exact tr_read hu hf
theorem sl_form {α : Type} {R : Cx} {u : U} {s : Sl} {xs : List Tr} (g : α → List Value) (Q : α → Prop) (ho : Tr.Ok R (.sl u) (.sl s xs)) (h : ∀ x : Tr, x.Ok R u → ∃ e : α, x.cells = g e ∧ Q e) :
    ∃ es : List α, RoN u.size R s (es.map g) ∧ es.length ≤ maxLen ∧ ∀ e ∈ es, Q e := by
  unfold Tr.Ok at ho
  obtain ⟨⟨h1, _⟩, h2, h3⟩ := ho
  have key : ∀ l : List Tr, (∀ x ∈ l, x.Ok R u) → ∃ es : List α, l.map Tr.cells = es.map g ∧ es.length = l.length ∧ ∀ e ∈ es, Q e := fun l => by
    induction l with
    | nil => exact fun _ => ⟨[], rfl, rfl, fun _ h => by cases h⟩
    | cons x l ih =>
      intro hl
      obtain ⟨es, h1, h2, h3⟩ := ih fun y hy => hl y (List.mem_cons_of_mem _ hy)
      obtain ⟨e, he, hq⟩ := h x (hl x List.mem_cons_self)
      exact ⟨e :: es, by rw [List.map_cons, List.map_cons, he, h1], by simp [h2], fun y hy => by
        rcases List.mem_cons.1 hy with rfl | hy
        · exact hq
        · exact h3 y hy⟩
  obtain ⟨es, e1, e2, e3⟩ := key xs (Tr.okA h3)
  rw [e1] at h1
  exact ⟨es, h1, by omega, e3⟩
theorem sl_cap {R : Cx} {u : U} {s : Sl} {xs : List Tr} (ho : Tr.Ok R (.sl u) (.sl s xs)) : s.len ≤ s.cap := by
  unfold Tr.Ok at ho
  exact ho.1.2
theorem RoN.one {R : Cx} {s : Sl} {vs : List Value} (h : RoN 1 R s (vs.map fun v => [v])) (hb : vs.length ≤ maxLen) : Ro R s vs := by
  refine ⟨by have := h.len; simpa using this, by unfold maxLen at hb; omega, fun hne => ?_⟩
  obtain ⟨b, off, l, T, fr, h1, h2, h3⟩ := h.mem (by simpa using hne)
  refine ⟨b, off, l, T, fr, h1, h2, fun i v hv => h3 i v ?_⟩
  have : (vs.map fun v => [v]).flatten = vs := by
    clear h3 h hb hne hv
    induction vs with
    | nil => rfl
    | cons v vs ih => simp [ih]
  rw [this]; exact hv
theorem ints_form {R : Cx} {k : IntKind} {s : Sl} {xs : List Tr} (ho : Tr.Ok R (.sl (.int k)) (.sl s xs)) : ∃ zs : List Int, Ro R s (zs.map (Value.int k)) ∧ zs.length ≤ maxLen ∧ ∀ z ∈ zs, (Lit.int k z).wf = true := by
  obtain ⟨zs, h1, h2, h3⟩ := sl_form (fun z : Int => [Value.int k z]) (fun z => (Lit.int k z).wf = true) ho fun x hx => by
    cases x <;> simp only [Tr.Ok] at hx
    rename_i k' z
    obtain ⟨rfl, hw⟩ := hx
    exact ⟨z, rfl, hw⟩
  refine ⟨zs, RoN.one ?_ (by simpa using h2), h2, h3⟩
  rw [List.map_map]
  exact h1
theorem strs_form {R : Cx} {s : Sl} {xs : List Tr} (ho : Tr.Ok R (.sl .str) (.sl s xs)) : ∃ zs : List ByteArray, Ro R s (zs.map Value.string) ∧ zs.length ≤ maxLen ∧ s.len ≤ s.cap ∧ ∀ z ∈ zs, z.size ≤ maxLen := by
  obtain ⟨zs, h1, h2, h3⟩ := sl_form (fun z : ByteArray => [Value.string z]) (fun z => z.size ≤ maxLen) ho fun x hx => by
    cases x <;> simp only [Tr.Ok] at hx
    rename_i z
    exact ⟨z, rfl, hx⟩
  refine ⟨zs, RoN.one ?_ (by simpa using h2), h2, sl_cap ho, h3⟩
  rw [List.map_map]
  exact h1
end
end Go.VC
/- The arguments of chapter 18's laws. No condition. -/
namespace Go.Proofs.YtfgbbckfikiomaaGreatDoor
set_option linter.unusedVariables false
open Go Go.VC Go.ChangeShapes Go.WideShapes Go.ChangeAt Go.RowKit
variable {H : Type} {enc : TypeId × Value → H} {W : World} {r : Reach} {b0 : Nat} {v : Value} {d : DataW H} {p : List MemPlace}
set_option maxRecDepth 100000 in
theorem bytes18_in (hv : Value.okWide Tryz.prog W r b0 42 v) (h : DataW.Trod enc Tryz.prog W 0 (fun _ => true) true 42 v d p) :
    ∃ (s : Sl) (bs : List Int), v = .slice s.a s.len s.cap ∧ SlR (Cx.of W).m s (b8 bs) ∧ Bytes bs := by
  obtain ⟨a, n, c, rfl⟩ := okWide_slice Tryz.underlying42 hv
  obtain ⟨x, hx, ho⟩ := tr_arg (d := 6) (u := .sl (.int .u8)) (by kernel_rfl) h
  cases x <;> simp only [Tr.Ok] at ho
  rename_i s xs
  have ho : Tr.Ok (Cx.of W) (.sl (.int .u8)) (.sl s xs) := by unfold Tr.Ok; exact ho
  obtain ⟨bs, h1, h2, h3⟩ := ints_form ho
  have e : [Value.slice s.a s.len s.cap] = [Value.slice a n c] := by simpa [Tr.cells, Value.cells] using hx
  have e := (List.cons.inj e).1
  simp only [Value.slice.injEq] at e
  obtain ⟨rfl, rfl, rfl⟩ := e
  refine ⟨s, bs, rfl, ⟨h1.len, sl_cap ho, h1.mem⟩, fun z hz => ?_⟩
  have := h3 z hz
  simp [Lit.wf, IntKind.min, IntKind.max, IntKind.bits, IntKind.signed] at this
  omega
abbrev replyU : U := .st [.int .i64, .str, .int .i64, .int .i64, .int .i64, .int .i64, .int .i64, .sl (.int .i64), .sl .str]
theorem wf_i64 {n : Int} (h : (Lit.int .i64 n).wf = true) : n < 9223372036854775808 := by
  simp [Lit.wf, IntKind.min, IntKind.max, IntKind.bits, IntKind.signed] at h
  omega
theorem reply_form {R : Cx} {x : Tr} (ho : x.Ok R replyU) : ∃ (c : Rp) (sl sb : Sl), x.cells = rpV c sl sb ∧ (∀ x ∈ [c.code, c.state, c.flt, c.cls, c.many, c.time] ++ c.left, x < 9223372036854775808) ∧ RoI R sl c.left ∧ SlR R.m sb (c.labs.map Value.string) := by
  cases x <;> simp only [Tr.Ok] at ho
  rename_i xs
  match xs, ho with
  | [x0, x1, x2, x3, x4, x5, x6, x7, x8], ho =>
    simp only [Tr.OkL, and_true] at ho
    obtain ⟨h0, h1, h2, h3, h4, h5, h6, h7, h8⟩ := ho
    cases x0 <;> simp only [Tr.Ok] at h0
    rename_i k0 n0
    obtain ⟨rfl, w0⟩ := h0
    cases x1 <;> simp only [Tr.Ok] at h1
    rename_i n1
    cases x2 <;> simp only [Tr.Ok] at h2
    rename_i k2 n2
    obtain ⟨rfl, w2⟩ := h2
    cases x3 <;> simp only [Tr.Ok] at h3
    rename_i k3 n3
    obtain ⟨rfl, w3⟩ := h3
    cases x4 <;> simp only [Tr.Ok] at h4
    rename_i k4 n4
    obtain ⟨rfl, w4⟩ := h4
    cases x5 <;> simp only [Tr.Ok] at h5
    rename_i k5 n5
    obtain ⟨rfl, w5⟩ := h5
    cases x6 <;> simp only [Tr.Ok] at h6
    rename_i k6 n6
    obtain ⟨rfl, w6⟩ := h6
    cases x7 <;> simp only [Tr.Ok] at h7
    rename_i sl lx
    have h7 : Tr.Ok R (.sl (.int .i64)) (.sl sl lx) := by unfold Tr.Ok; exact h7
    cases x8 <;> simp only [Tr.Ok] at h8
    rename_i sb bx
    have h8 : Tr.Ok R (.sl .str) (.sl sb bx) := by unfold Tr.Ok; exact h8
    obtain ⟨left, a1, _, a3⟩ := ints_form h7
    obtain ⟨labs, b1, _, b3, _⟩ := strs_form h8
    refine ⟨⟨n0, n1, n2, n3, n4, n5, n6, left, labs⟩, sl, sb, rfl, fun x hx => ?_, a1, ⟨b1.len, b3, b1.mem⟩⟩
    rcases List.mem_append.1 hx with hx | hx
    · simp only [List.mem_cons, List.not_mem_nil, or_false] at hx
      rcases hx with rfl | rfl | rfl | rfl | rfl | rfl
      · exact wf_i64 w0
      · exact wf_i64 w2
      · exact wf_i64 w3
      · exact wf_i64 w4
      · exact wf_i64 w5
      · exact wf_i64 w6
    · exact wf_i64 (a3 x hx)
set_option maxRecDepth 100000 in
theorem reply_in (hv : Value.okWide Tryz.prog W r b0 31 v) (h : DataW.Trod enc Tryz.prog W 0 (fun _ => true) true 31 v d p) :
    ∃ (c : Rp) (sl sb : Sl), v = .agg (rpV c sl sb).toArray ∧ (∀ x ∈ [c.code, c.state, c.flt, c.cls, c.many, c.time] ++ c.left, x < 9223372036854775808) ∧ RoI (Cx.of W) sl c.left ∧ SlR (Cx.of W).m sb (c.labs.map Value.string) := by
  obtain ⟨x, hx, ho⟩ := tr_arg (d := 6) (u := replyU) (by kernel_rfl) h
  obtain ⟨c, sl, sb, e, h1, h2, h3⟩ := reply_form ho
  simp only [Value.okWide, Tryz.underlying31 ] at hv
  obtain ⟨cs, rfl, _⟩ := hv
  refine ⟨c, sl, sb, ?_, h1, h2, h3⟩
  have : cs.toList = rpV c sl sb := by rw [show cs.toList = (Value.agg cs).cells.toList from rfl, ← hx, e]
  congr 1
  exact Array.ext' this
end Go.Proofs.YtfgbbckfikiomaaGreatDoor
