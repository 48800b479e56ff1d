/- Arguments of the laws of chapter 04, read. No condition. -/
import Derived.Test.YtbniilhfbfcegaaE7
import Derived.Test.YtbniilhfbfcegaaRow3
namespace Go.Proofs.Ytbniilhfbfcegaa
open Go Go.VC Go.ChangeShapes Go.WideShapes Go.ChangeAt Go.RowKit

theorem act_form {R : Cx} {x : Tr} (h : x.Ok R (.st [.int .i64, .str, .str, .int .i64, .sl (.int .u8), .sl (.int .i64)])) : ∃ e : AE, x.cells = rowA e ∧ ActOk R e := by
  cases x <;> simp only [Tr.Ok] at h
  rename_i xs
  match xs, h with
  | [x0, x1, x2, x3, x4, x5], h =>
    simp only [Tr.OkL, and_true] at h
    obtain ⟨h0, h1, h2, h3, h4, h5⟩ := h
    cases x0 <;> simp only [Tr.Ok] at h0
    cases x1 <;> simp only [Tr.Ok] at h1
    cases x2 <;> simp only [Tr.Ok] at h2
    cases x3 <;> simp only [Tr.Ok] at h3
    cases x4 <;> simp only [Tr.Ok] at h4
    cases x5 <;> simp only [Tr.Ok] at h5
    rename_i k0 n0 s1 s2 k3 n3 sb bs sk ks
    obtain ⟨rfl, w0⟩ := h0
    obtain ⟨rfl, w3⟩ := h3
    obtain ⟨bl, hb1, hb2, hb3⟩ := ints_form (R := R) (k := .u8) (s := sb) (xs := bs) (by unfold Tr.Ok; exact h4)
    obtain ⟨kl, hk1, hk2, hk3⟩ := ints_form (R := R) (k := .i64) (s := sk) (xs := ks) (by unfold Tr.Ok; exact h5)
    refine ⟨(⟨n0, s1, s2, n3, bl, kl⟩, sb, sk), rfl, hb1, hk1, ?_, ?_, ?_⟩
    · simp [Lit.wf, IntKind.min, IntKind.max, IntKind.bits, IntKind.signed] at w3; simp only; omega
    · simp [Lit.wf, IntKind.min, IntKind.max, IntKind.bits, IntKind.signed] at w3; simp only; omega
    · intro z hz
      have := hb3 z hz
      simp [Lit.wf, IntKind.min, IntKind.max, IntKind.bits, IntKind.signed] at this
      omega

variable {H : Type} {enc : TypeId × Value → H} {W : World} {r : Reach} {b0 : Nat} {v : Value} {d : DataW H} {p : List MemPlace}

set_option maxRecDepth 100000 in
theorem acts_in (hv : Value.okWide Try.prog W r b0 40 v) (h : DataW.Trod enc Try.prog W 0 (fun _ => true) true 40 v d p) :
    ∃ (l : Sl) (acts : List AE), v = .slice l.a l.len l.cap ∧ RoN 6 (Cx.of W) l (acts.map rowA) ∧ ∀ e ∈ acts, ActOk (Cx.of W) e := by
  obtain ⟨a, n, c, rfl⟩ := okWide_slice Try.underlying40 hv
  obtain ⟨x, hx, ho⟩ := tr_arg (d := 6) (u := .sl (.st [.int .i64, .str, .str, .int .i64, .sl (.int .u8), .sl (.int .i64)])) (by kernel_rfl) h
  cases x <;> simp only [Tr.Ok] at ho
  rename_i s xs
  obtain ⟨acts, h1, _, h3⟩ := sl_form rowA (ActOk (Cx.of W)) (show Tr.Ok _ (.sl _) (.sl s xs) by unfold Tr.Ok; exact ho) fun x hx => act_form hx
  refine ⟨s, acts, ?_, h1, h3⟩
  have : [Value.slice s.a s.len s.cap] = [Value.slice a n c] := by simpa [Tr.cells, Value.cells] using hx
  exact (List.cons.inj this).1.symm

set_option maxRecDepth 100000 in
theorem act_in (hv : Value.okWide Try.prog W r b0 43 v) (h : DataW.Trod enc Try.prog W 0 (fun _ => true) true 43 v d p) :
    ∃ e : AE, v = .agg #[.int .i64 e.1.dof, .string e.1.name, .string e.1.to, .int .i64 e.1.n, .slice e.2.1.a e.2.1.len e.2.1.cap, .slice e.2.2.a e.2.2.len e.2.2.cap] ∧ ActOk (Cx.of W) e := by
  obtain ⟨x, hx, ho⟩ := tr_arg (d := 6) (u := .st [.int .i64, .str, .str, .int .i64, .sl (.int .u8), .sl (.int .i64)]) (by kernel_rfl) h
  obtain ⟨e, he, hok⟩ := act_form ho
  simp only [Value.okWide, Try.underlying43 ] at hv
  obtain ⟨cs, rfl, _⟩ := hv
  refine ⟨e, ?_, hok⟩
  rw [he] at hx
  have : cs.toList = rowA e := by rw [hx]; rfl
  congr 1
  exact Array.ext' this

end Go.Proofs.Ytbniilhfbfcegaa
