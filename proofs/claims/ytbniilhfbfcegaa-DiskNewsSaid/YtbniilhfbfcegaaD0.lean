/- DiskNewsSaid: for every room the law returns true. No condition. -/
import Derived.Test.YtbniilhfbfcegaaB1
import Derived.Test.YtbniilhfbfcegaaRow
import Derived.Test.YtbniilhfbfcegaaRows
namespace Go.Proofs.Ytbniilhfbfcegaa
open Go Go.VC Go.ChangeShapes Go.WideShapes Go.ChangeAt Go.RowKit

variable {R : Cx} {Hs : List HP} {w : World}

def newErr (room : Int) : Int := if room < 1 ∨ room > 16777216 then 1 else 0

theorem newD_err (room : Int) (hw : Sat R Hs w) : Gets Try.prog 10 #[.int .i64 room] w fun v w' => (∃ p, v = .tuple #[.pointer p, .int .i64 (newErr room)] ∧ p.isNone = (newErr room != 0)) ∧ Sat R Hs w' := by
  apply call10
  refine Br.mk (fun h => ?_) (fun h => Br.mk (fun h2 => ?_) (fun h2 => ?_)) <;> simp only [decide_eq_true_eq, decide_eq_false_iff_not] at h
  · have e : newErr room = 1 := if_pos (.inl h)
    exact ⟨⟨none, by rw [e], by rw [e]; rfl⟩, hw⟩
  · simp only [decide_eq_true_eq] at h2
    have e : newErr room = 1 := if_pos (.inr h2)
    exact ⟨⟨none, by rw [e], by rw [e]; rfl⟩, hw⟩
  · simp only [decide_eq_false_iff_not] at h2
    have e : newErr room = 0 := if_neg (by omega)
    refine new_rule hw fun b w hw => new_rule hw fun c w hw => ?_
    exact ⟨⟨some ⟨c, 0, none⟩, by rw [e], by rw [e]; rfl⟩, hw.drop.drop⟩

theorem newR_err (room : Int) (hw : Sat R Hs w) : Gets Try.prog 11 #[.int .i64 room] w fun v w' => (∃ p, v = .tuple #[.pointer p, .int .i64 (newErr room)]) ∧ Sat R Hs w' := by
  apply call11
  refine Br.mk (fun h => ?_) (fun h => Br.mk (fun h2 => ?_) (fun h2 => ?_)) <;> simp only [decide_eq_true_eq, decide_eq_false_iff_not] at h
  · have e : newErr room = 1 := if_pos (.inl h)
    exact ⟨⟨none, by rw [e]⟩, hw⟩
  · simp only [decide_eq_true_eq] at h2
    have e : newErr room = 1 := if_pos (.inr h2)
    exact ⟨⟨none, by rw [e]⟩, hw⟩
  · simp only [decide_eq_false_iff_not] at h2
    have e : newErr room = 0 := if_neg (by omega)
    refine new_rule hw fun b w hw => ?_
    exact ⟨⟨some ⟨b, 0, none⟩, by rw [e]⟩, hw.drop⟩

theorem news_spec (room : Int) (hw : Sat R Hs w) : Gets Try.prog 3 #[.int .i64 room] w fun v w' => v = .bool true ∧ Sat R Hs w' := by
  apply call3
  refine (newD_err room hw).use ?_
  rintro _ w ⟨⟨p, rfl, hp⟩, hw⟩
  refine ⟨_, _, rfl, (newR_err room hw).use ?_⟩
  rintro _ w ⟨⟨q, rfl⟩, hw⟩
  refine ⟨_, _, rfl, (newD_err 1 hw).use ?_⟩
  rintro _ w ⟨⟨r, rfl, hr⟩, hw⟩
  refine ⟨_, _, rfl, Br.t (by rw [hr]; rfl) (Br.t (by simp) ⟨?_, hw⟩)⟩
  rw [hp]
  cases h : newErr room == 0 <;> simp [bne, h]

theorem own : ownKnob Try.prog.godebug = none := by kernel_rfl

set_option maxRecDepth 100000 in
theorem news_lifted (os : Os) (started : os.Started) (H : Type) (enc : TypeId × Value → H) :
    ReturnsInHanded {} Try.checked os 3 .any (Rows.diskNewsSpec.pre6 enc Try.prog Try.f3 Rows.diskNewsRow.domain false) (Rows.diskNewsSpec.post enc Try.prog Try.f3 false true false false) := by
  refine returnsInHanded_of_change (C := Try.checked) own started (by kernel_rfl) Try.func3
    (ChangeSpec.witness6 (enc := enc) (C := Try.checked) false ⟨#[], #[.int .i64 0], []⟩ 8 (by kernel_rfl) (by kernel_rfl) (by kernel_rfl) (by kernel_rfl)) ?_
  intro W base args ds gs before hval0 hW hcnd _
  have hval : ∀ (j : Nat) t v, Try.f3.params[j]? = some t → args[j]? = some v → Value.okWide Try.prog W .any base t v := hval0
  have hW' := hW
  obtain ⟨p, q, hA0, hV, rfl, hfz, hnd⟩ := hW
  have hA : DataW.TrodAll enc Try.prog W 0 (fun _ => true) true Try.f3.params.toList args.toList ds p := hA0
  rw [Try.params3] at hA hval
  obtain ⟨v0, vs0, d0, ds0, p0, q0, hargs, rfl, rfl, h0, r0⟩ := trodAll_cons hA
  obtain ⟨rfl, rfl, rfl⟩ := trodAll_nil r0
  obtain rfl : args = #[v0] := by cases args; simp_all
  obtain ⟨rfl, rfl⟩ := trodVars_none hV
  obtain ⟨a0, rfl, rfl, rfl, w0⟩ := open_int Try.underlying3 (hval 0 3 v0 rfl rfl) h0
  clear hA0 hval0
  refine (news_spec a0 (Sat.start W)).use fun v W' ⟨hv, hs⟩ => ?_
  subst hv
  have bel := below_of hs
  exact ⟨_, rfl, _, _, _, [], _, [], hW', trodAll_mk1 (shut_bool Try.underlying4 _), (trodAll_cons_mk (shut_int Try.underlying3 w0) trodAll_mk0), rfl, bel.frame _, fun h => by cases h⟩

theorem news_holds : Rows.DiskNewsSaid :=
  OpenClaim.holds_of_wide 3 Try.f3 rfl rfl rfl rfl rfl rfl rfl ⟨rfl, rfl, rfl, rfl, rfl⟩ rfl rfl rfl rfl rfl (by kernel_rfl) Try.func3 (by kernel_rfl)
    (of_decide_eq_true (by kernel_rfl)) (by unfold Func.isWrapper; first | (rw [if_pos (by decide +kernel)]; kernel_rfl) | (rw [if_neg (by decide +kernel)]; exact ⟨rfl, rfl⟩))
    (fun os started H enc _ => news_lifted os started H enc)
#print axioms news_holds
end Go.Proofs.Ytbniilhfbfcegaa
