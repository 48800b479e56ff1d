/- The formulas of functions of this seat's translation, printed by a program of mine off the translation; each is proved equal to 'fnF' of the function's body, so it is enough for the call. No condition. -/
import Derived.Test.YtbniilhfbfcegaaDB1
namespace Go.Proofs.Ytbniilhfbfcegaa
open Go Go.VC
set_option linter.unusedVariables false
/-- (*jetway/disk.Disk).Names. -/
def B22 (d0 : Option Addr) (K : Value → World → Prop) (w : World) : Prop :=
  NilP d0 fun a_t4 =>
  ∃ t6 : Option Nat, (At (fun w' => w' = w) ⟨a_t4.block, a_t4.off + 2, none⟩ [.map t6]) ∧
  Calls Try.prog 42 #[.map t6] w fun e w_1 =>
  ∃ t7 : Value, (e = .returned (t7)) ∧
  Calls Try.prog 41 #[t7] w_1 fun e_1 w_2 =>
  ∃ t8 : Sl, (e_1 = .returned (.slice t8.a t8.len t8.cap)) ∧
  K (.slice t8.a t8.len t8.cap) w_2

def sk22 : Sk := .leaf
theorem ok22 : fnOk Try.prog Try.f22.ntmps Try.f22 sk22 = true := by kernel_rfl
theorem eq22 (d0 : Option Addr) (K : Value → World → Prop) (w : World) : fnF Try.prog cl Try.f22 sk22 [.pointer d0] K w = B22 d0 K w := by kernel_rfl
theorem call22 (d0 : Option Addr) (K : Value → World → Prop) (w : World) (h : B22 d0 K w) : Gets Try.prog 22 #[.pointer d0] w K :=
  calls_of (sk := sk22) cl_ok mixed Try.func22 ok22 (args := [.pointer d0]) (Nat.le_of_ble_eq_true (by kernel_rfl)) (by rw [eq22]; exact h)

end Go.Proofs.Ytbniilhfbfcegaa
