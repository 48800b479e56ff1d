/- VC, part 4: the formulas of part 3 are enough. No condition. -/
import Derived.Test.YtbniilhfbfcegaaVc3
namespace Go.VC
variable {P : Program} {ρ : Operand → Value} {dst : Option Tmp} {ty : TypeId} {pos : String} {after : Array Edge} {guard : Option (Nat × Bool)} {K : Value → Prop}

theorem isAgg_run {P : Program} {t : TypeId} {d : TypeDesc} (h : P.underlying t = some d) (w : World) : (isAgg t).run P w = .ok (isAggT P t) w := by
  unfold isAggT; rw [h]; simp only [isAgg, Sem.run_bind, run_underlying h, Result.andThen_ok]
  cases d <;> rfl

theorem sizeOf_run {P : Program} {t : TypeId} {i : TypeInfo} (h : P.info? t = some i) (w : World) : (sizeOf t).run P w = .ok (szOf P t) w := by
  unfold szOf; simp [sizeOf, run_typeInfo_of h, h]

theorem szOf_pos {P : Program} {t : TypeId} (h : szOf P t ≠ 0) : ∃ i, P.info? t = some i := by
  unfold szOf at h; split at h
  · exact ⟨_, by assumption⟩
  · exact absurd rfl h

def elemOk (P : Program) (T : TypeId) : Bool :=
  match P.underlying T with
  | some (.slice e) | some (.array _ e) => (P.info? e).isSome
  | _ => true

theorem idxAddrF_sound {T : TypeId} {x i : Operand} (hok : elemOk P T = true) (h : idxAddrF P T (ρ x) (ρ i) K) :
    Gives P (fun _ => True) (execOp ρ ⟨dst, .indexAddr T x i, ty, pos, after, guard⟩) K := by
  unfold idxAddrF at h
  unfold elemOk at hok
  split at h
  case h_2 => exact h.elim
  rename_i k n hi
  split at h
  · rename_i e hT
    rw [hT] at hok
    obtain ⟨ie, hie⟩ := Option.isSome_iff_exists.1 hok
    split at h
    · rename_i a len c hx
      obtain ⟨h0, h1, h⟩ := Rng.out h
      obtain ⟨ad, rfl, h⟩ := NilP.out h
      refine ⟨_, fun w _ => ?_, h⟩
      simp only [execOp, hx, hi]
      refine value_run ?_
      simp [Instr.indexAt, asIntOf, run_underlying hT, h0, h1, sizeOf_run hie, mulS_eq]
    · exact h.elim
  · rename_i len e hT
    rw [hT] at hok
    obtain ⟨ie, hie⟩ := Option.isSome_iff_exists.1 hok
    split at h
    · rename_i p hx
      obtain ⟨h0, h1, h⟩ := Rng.out h
      obtain ⟨ad, rfl, h⟩ := NilP.out h
      refine ⟨_, fun w _ => ?_, h⟩
      simp only [execOp, hx, hi]
      refine value_run ?_
      simp [Instr.indexAt, Instr.sureAddr, asIntOf, run_underlying hT, h0, h1, sizeOf_run hie, mulS_eq]
    · exact h.elim
  · exact h.elim

def partOk (P : Program) (T : TypeId) : Bool :=
  match P.underlying T with
  | some (.slice e) | some (.array _ e) => (P.info? e).isSome && (P.underlying e).isSome
  | _ => true

theorem idxF_sound {T : TypeId} {x i : Operand} (hok : partOk P T = true) (h : idxF P T (ρ x) (ρ i) K) :
    Gives P (fun _ => True) (execOp ρ ⟨dst, .index T x i, ty, pos, after, guard⟩) K := by
  unfold idxF at h
  unfold partOk at hok
  split at h
  case h_2 => exact h.elim
  rename_i k n hi
  split at h
  · rename_i hT
    split at h
    · rename_i s hx
      obtain ⟨c, h0, hc, h⟩ := h
      refine ⟨_, fun w _ => ?_, h⟩
      simp only [execOp, hx, hi]
      refine value_run ?_
      simp [Instr.index, asIntOf, run_underlying hT, h0, hc]
    · exact h.elim
  · rename_i len e hT
    rw [hT] at hok
    simp only [Bool.and_eq_true] at hok
    obtain ⟨ie, hie⟩ := Option.isSome_iff_exists.1 hok.1
    obtain ⟨de, hde⟩ := Option.isSome_iff_exists.1 hok.2
    split at h
    · rename_i cs hx
      obtain ⟨h0, h1, h⟩ := Rng.out h
      split at h
      · rename_i hag
        refine ⟨_, fun w _ => ?_, h⟩
        simp only [execOp, hx, hi]
        refine value_run ?_
        simp [Instr.index, asIntOf, run_underlying hT, h0, h1, sizeOf_run hie, part, isAgg_run hde, hag, mulS_eq]
      · rename_i hag
        obtain ⟨v, hv, h⟩ := Ty.ex_some h
        refine ⟨_, fun w _ => ?_, h⟩
        simp only [execOp, hx, hi]
        refine value_run ?_
        rw [mulS_eq] at hv
        simp [Instr.index, asIntOf, run_underlying hT, h0, h1, sizeOf_run hie, part, isAgg_run hde, hag, hv]
    · exact h.elim
  · exact h.elim

theorem bnd_some {v : Value} {d y : Nat} {φ : Nat → Prop} {code : BoundsCode} (h : bnd (some v) d y φ) : ∃ l, (∀ w, (Instr.sliceBound v y code).run P w = .ok l w) ∧ φ l := by
  unfold bnd at h
  split at h
  · rename_i hh; cases hh
  · rename_i hh
    cases hh
    split at h
    · obtain ⟨h0, h1, h⟩ := h
      exact ⟨_, fun w => by simp [Instr.sliceBound, asIntOf, h0, h1], h⟩
    · exact h.elim

theorem bounds_sound {isS : Bool} {len cap : Nat} {lo hi mx : Option Value} {φ : Nat → Nat → Nat → Prop}
    (h : bnd mx cap cap fun m => (match hi, mx with
      | none, some _ => False
      | _, _ => bnd hi len m fun h => bnd lo 0 h fun l => φ l h m)) :
    ∃ l h m, (∀ w, (Instr.sliceBounds isS len cap lo hi mx).run P w = .ok (l, h, m) w) ∧ φ l h m := by
  cases mx with
  | none =>
    cases hi with
    | none =>
      cases lo with
      | none => exact ⟨0, len, cap, fun w => by simp [Instr.sliceBounds], h⟩
      | some u =>
        obtain ⟨l, rl, h⟩ := bnd_some (P := P) (code := .sliceB) (φ := fun l => φ l len cap) (d := 0) (y := len) (v := u) h
        exact ⟨l, len, cap, fun w => by simp [Instr.sliceBounds, rl], h⟩
    | some v =>
      obtain ⟨h', rh, h⟩ := bnd_some (P := P) (code := if isS then .sliceAcap else .sliceAlen) (φ := fun h => bnd lo 0 h fun l => φ l h cap) (d := len) (y := cap) (v := v) h
      cases lo with
      | none => exact ⟨0, h', cap, fun w => by simp [Instr.sliceBounds, rh], h⟩
      | some u =>
        obtain ⟨l, rl, h⟩ := bnd_some (P := P) (code := .sliceB) (φ := fun l => φ l h' cap) (d := 0) (y := h') (v := u) h
        exact ⟨l, h', cap, fun w => by simp [Instr.sliceBounds, rh, rl], h⟩
  | some x =>
    obtain ⟨m, rm, h⟩ := bnd_some (P := P) (code := if isS then .slice3Acap else .slice3Alen) h
    cases hi with
    | none => exact h.elim
    | some v =>
      obtain ⟨h', rh, h⟩ := bnd_some (P := P) (code := .slice3B) (φ := fun h => bnd lo 0 h fun l => φ l h m) (d := len) (y := m) (v := v) h
      cases lo with
      | none => exact ⟨0, h', m, fun w => by simp [Instr.sliceBounds, rm, rh], h⟩
      | some u =>
        obtain ⟨l, rl, h⟩ := bnd_some (P := P) (code := .slice3C) (φ := fun l => φ l h' m) (d := 0) (y := h') (v := u) h
        exact ⟨l, h', m, fun w => by simp [Instr.sliceBounds, rm, rh, rl], h⟩

theorem cutA_zero (a : Option Addr) (m size : Nat) : cutA a 0 m size = a := by
  unfold cutA; split
  · rfl
  · cases a <;> simp [Addr.add]

theorem sliceF_sound {T : TypeId} {x : Operand} {lo hi mx : Option Operand} (hok : elemOk P T = true)
    (h : sliceF P T (ρ x) (lo.map ρ) (hi.map ρ) (mx.map ρ) K) :
    Gives P (fun _ => True) (execOp ρ ⟨dst, .slice T x lo hi mx, ty, pos, after, guard⟩) K := by
  unfold sliceF at h
  unfold elemOk at hok
  split at h
  · rename_i hT
    split at h
    · rename_i s hx
      split at h
      · exact h.elim
      · rename_i hmx
        obtain ⟨l, h', m, hr, h⟩ := bounds_sound (P := P) (isS := false) (len := s.size) (cap := s.size) (lo := lo.map ρ) (hi := hi.map ρ) (mx := none) (φ := fun l h _ => K (.string (s.extract l h))) (by
          revert h
          generalize hi.map ρ = hi'
          intro h
          cases hi' with
          | none => exact h
          | some v => exact h)
        refine ⟨_, fun w _ => ?_, h⟩
        simp only [execOp, hx, hmx]
        refine value_run ?_
        simp [Instr.sliceAt, Instr.slice, run_underlying hT, hr]
    · exact h.elim
  · rename_i e hT
    rw [hT] at hok
    obtain ⟨ie, hie⟩ := Option.isSome_iff_exists.1 hok
    split at h
    · rename_i a n c hx
      obtain ⟨l, h', m, hr, h⟩ := bounds_sound (P := P) (isS := true) (len := n) (cap := c) (lo := lo.map ρ) (hi := hi.map ρ) (mx := mx.map ρ) (φ := fun l h m => K (.slice (cutA a l m (szOf P e)) (h - l) (m - l))) (by
        revert h
        generalize hi.map ρ = hi'
        generalize mx.map ρ = mx'
        generalize lo.map ρ = lo'
        intro h
        cases lo' with
        | some v => exact h
        | none =>
          cases mx' with
          | none => cases hi' with
            | none => simpa [bnd, cutA_zero] using h
            | some v => simpa [bnd, cutA_zero] using h
          | some u => cases hi' with
            | none => simpa [bnd] using h
            | some v => simpa [bnd, cutA_zero] using h)
      refine ⟨_, fun w _ => ?_, h⟩
      simp only [execOp, hx]
      refine value_run ?_
      simp [Instr.sliceAt, Instr.slice, run_underlying hT, hr, sizeOf_run hie, cutA]
    · exact h.elim
  · rename_i n e hT
    rw [hT] at hok
    obtain ⟨ie, hie⟩ := Option.isSome_iff_exists.1 hok
    split at h
    · rename_i p hx
      obtain ⟨a, rfl, h⟩ := h
      obtain ⟨l, h', m, hr, h⟩ := bounds_sound (P := P) (isS := false) (len := n) (cap := n) (lo := lo.map ρ) (hi := hi.map ρ) (mx := mx.map ρ) (φ := fun l h m => K (.slice (cutA (some a) l m (szOf P e)) (h - l) (m - l))) (by
        revert h
        generalize hi.map ρ = hi'
        generalize mx.map ρ = mx'
        generalize lo.map ρ = lo'
        intro h
        cases lo' with
        | some v => exact h
        | none =>
          cases mx' with
          | none => cases hi' with
            | none => simpa [bnd, cutA_zero] using h
            | some v => simpa [bnd, cutA_zero] using h
          | some u => cases hi' with
            | none => simpa [bnd] using h
            | some v => simpa [bnd, cutA_zero] using h)
      refine ⟨_, fun w _ => ?_, h⟩
      simp only [execOp, hx]
      refine value_run ?_
      have hc : (if m = l then some a else some (a.add (l * szOf P e))) = cutA (some a) l m (szOf P e) := by unfold cutA; split <;> rfl
      have hc' : some (if m = l then a else a.add (l * szOf P e)) = cutA (some a) l m (szOf P e) := by unfold cutA; split <;> rfl
      simp [Instr.sliceAt, Instr.sureAddr, run_underlying hT, hr, sizeOf_run hie, hc']
    · exact h.elim
  · exact h.elim

/-- What is asked of the program's tables ahead. -/
def tabOk (P : Program) (op : Op) : Bool :=
  match op with
  | .indexAddr T _ _ | .slice T _ _ _ _ => elemOk P T
  | .index T _ _ => partOk P T
  | _ => true

theorem PR_sound {s : Sem Next} (h : PR P s K) : Gives P (fun _ => True) s K := by
  unfold PR at h
  split at h
  · rename_i v hv; exact ⟨v, fun w _ => pureRun_sound hv w, h⟩
  · exact h.elim

theorem Gives.mono {S S' : World → Prop} {s : Sem Next} (hS : ∀ w, S' w → S w) (h : Gives P S s K) : Gives P S' s K :=
  let ⟨v, hv, hK⟩ := h; ⟨v, fun w hw => hv w (hS w hw), hK⟩

theorem pureF_sound {e : Env} {o : Oper} (hok : tabOk P o.op = true) (h : pureF P e o K) : Gives P (fun _ => True) (execOp e.ev o) K := by
  unfold pureF at h
  split at h
  · exact PR_sound h
  · obtain ⟨dst, op, ty, pos, after, guard⟩ := o
    cases op <;> simp only at h hok <;> first | exact h.elim | skip
    case binOp op T x y T' =>
      obtain ⟨v, hv, hK⟩ := binF_sound h _ _
      exact ⟨v, fun w _ => value_run (hv w), hK⟩
    case nilCheck x => exact NilCk_sound h
    case indexAddr T x i => exact idxAddrF_sound hok h
    case index T x i => exact idxF_sound hok h
    case slice T x lo hi mx => exact sliceF_sound hok h
    case fieldAddr T x i =>
      unfold fldAddrF at h
      split at h
      · rename_i p hx
        obtain ⟨a, rfl, h⟩ := NilP.out h
        obtain ⟨v, hv, hK⟩ := PR_sound h
        exact ⟨v, fun w _ => by simp only [execOp, hx]; exact hv w trivial, hK⟩
      · exact h.elim

end Go.VC
