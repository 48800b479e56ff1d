/- Package record: Scan's contract. Condition: bounds on lengths. -/
import Derived.Test.YtgfneeoponiibaaB3
import Derived.Test.YtgfneeoponiibaaB2
import Derived.ProofKit
import Derived.OpenShut
import Derived.ShutString
import Derived.ChangeOld
import Derived.Below
import Derived.Lib.SmallJoins
namespace Go.Proofs.Ytgfneeoponiibaa
open Go Go.VC

variable {R : Cx} {Hs Rest : List HP} {w : World}

theorem env_at (a : Act) (i : Nat) : a.env i = a.tmps.getD i undef := rfl

/-- One round. -/
theorem round_spec {b4 b5 L D fn m : Nat} {tmps : Array Value} {s : Sl} {x : List Int} {pre : List (List Int)} {W : World} (hsz : tmps.size = 22) (h4 : tmps.getD 4 undef = .pointer (some ⟨b4, 0, none⟩)) (h5 : tmps.getD 5 undef = .pointer (some ⟨b5, 0, none⟩))
    (hs : Ro R s (b8 x)) (hl : scanLen (pre ++ [x]) ≤ 1099511627776)
    (hw : Sat R (pts L (lrec .ready fn tmps (lpPs Try.f30) (lpAssign Try.f30) (lpBody Try.f30) D) :: OutAt b4 pre :: pts b5 (.cells [.int .i64 (scanLen pre : Nat)].toArray 3 (0, 0)) :: Hs) W) :
    YieldAt Fence.wide m Try.prog L #[.slice s.a s.len s.cap] W fun e W' => e = .returned (.bool true) ∧
      Sat R (pts L (lrec .ready fn tmps (lpPs Try.f30) (lpAssign Try.f30) (lpBody Try.f30) D) :: OutAt b4 (pre ++ [x]) :: pts b5 (.cells [.int .i64 (scanLen (pre ++ [x]) : Nat)].toArray 3 (0, 0)) :: Hs) W' := by
  have hps := ps30
  refine round_rule hw (by rw [hps]; rfl) ?_
  have hY : ∀ l args w Q, (fun (_ : Nat) (_ : List Value) (_ : World) (_ : Ending → World → Prop) => False) l args w Q → YieldAt (wf (some L)) (m - 1) Try.prog l args.toArray w Q := fun _ _ _ _ h => h.elim
  have hoka := oka30
  have hokb := okb30
  simp only [Bool.and_eq_true] at hoka hokb
  have htm : ((lpPs Try.f30).zip #[Value.slice s.a s.len s.cap]).foldl (fun t (p, v) => t.setIfInBounds p v) tmps = tmps.setIfInBounds 9 (.slice s.a s.len s.cap) := by
    rw [hps]; simp
  rw [htm]
  generalize hA : ({ tmps := tmps.setIfInBounds 9 (.slice s.a s.len s.cap), defers := [] } : Act) = A
  have hAs : A.tmps.size = 22 := by rw [← hA]; simp [hsz]
  have hAd : A.defers = [] := by rw [← hA]
  have hA9 : A.env 9 = .slice s.a s.len s.cap := by rw [← hA, env_at]; simp [hsz]
  have hA4 : A.env 4 = .pointer (some ⟨b4, 0, none⟩) := by rw [← h4, ← hA, env_at]; simp
  have hA5 : A.env 5 = .pointer (some ⟨b5, 0, none⟩) := by rw [← h5, ← hA, env_at]; simp
  have h1 : deny Try.prog cl (fun (_ : Nat) (_ : List Value) (_ : World) (_ : Ending → World → Prop) => False) (lpAssign Try.f30) .leaf A.env (noC fun ρ w => ρ 4 = .pointer (some ⟨b4, 0, none⟩) ∧ ρ 5 = .pointer (some ⟨b5, 0, none⟩) ∧ ρ 6 = .slice s.a s.len s.cap ∧ w = W) W := by
    rw [← env_set_same hA9, eqa30 ]
    exact ⟨hA4, hA5, rfl, rfl⟩
  refine Code.wpIn_mono ?_ (deny_sound (r := some L) (nn := m) (n := 22) cl_ok hY mixed _ _ (fun i => memB i [6]) A.env hoka.1.1 hoka.1.2 hoka.2 A _ W (Kept.refl hAs hAd) h1)
  intro e a1 w1 hq
  cases e with
  | exit i => exact hq.2.elim
  | ret => exact hq.2.elim
  | goto t => exact hq.elim
  | panic c => exact hq.elim
  | outgrown => exact hq.elim
  | normal =>
  obtain ⟨hk, e4, e5, e6, rfl⟩ := hq
  refine ⟨hw, fun W2 hw2 => ?_⟩
  have hw3 : Sat R (OutAt b4 pre :: pts b5 (.cells [.int .i64 (scanLen pre : Nat)].toArray 3 (0, 0)) :: pts L (lrec .busy fn tmps (lpPs Try.f30) (lpAssign Try.f30) (lpBody Try.f30) D) :: Hs) W2 := hw2.arr
  have h2 : deny Try.prog cl (fun (_ : Nat) (_ : List Value) (_ : World) (_ : Ending → World → Prop) => False) (lpBody Try.f30) .leaf a1.env (noC fun _ w => Sat R (OutAt b4 (pre ++ [x]) :: pts b5 (.cells [.int .i64 (scanLen (pre ++ [x]) : Nat)].toArray 3 (0, 0)) :: pts L (lrec .busy fn tmps (lpPs Try.f30) (lpAssign Try.f30) (lpBody Try.f30) D) :: Hs) w) W2 := by
    have : a1.env = ((a1.env.set 4 (.pointer (some ⟨b4, 0, none⟩))).set 5 (.pointer (some ⟨b5, 0, none⟩))).set 6 (.slice s.a s.len s.cap) := by
      rw [env_set_same e4, env_set_same e5, env_set_same e6]
    rw [this, eqb30 ]
    exact body_spec hs hl hw3 fun w hw => hw
  refine Code.wpIn_mono ?_ (deny_sound (r := some L) (nn := m) (n := 22) cl_ok hY mixed _ _ (fun _ => true) a1.env hokb.1.1 hokb.1.2 hokb.2 a1 _ W2 (Kept.refl hk.size hk.defers) h2)
  intro e a2 w2 hq
  cases e with
  | exit i => exact hq.2.elim
  | ret => exact hq.2.elim
  | goto t => exact hq.elim
  | panic c => exact hq.elim
  | outgrown => exact hq.elim
  | normal =>
  refine ⟨rfl, OutAt b4 (pre ++ [x]) :: pts b5 (.cells [.int .i64 (scanLen (pre ++ [x]) : Nat)].toArray 3 (0, 0)) :: Hs, hq.2.arr, fun W4 hw4 => ⟨rfl, hw4⟩⟩

theorem scan_spec {s : Sl} {bs : List Int} (hbs : ∀ x ∈ bs, 0 ≤ x ∧ x < 256) (hlen : bs.length ≤ 1099511627776) (hs : SlR R.m s (b8 bs)) (hw : Sat R Hs w) :
    Gets Try.prog 30 #[.slice s.a s.len s.cap] w fun v w' => ∃ l : Sl, v = .tuple #[.slice l.a l.len l.cap, .int .i64 (scanLen (scan bs) : Nat)] ∧ Sat R (BytesL l (scan bs) :: Hs) w' := by
  apply call30
  refine new_rule hw fun b4 w hw => new_rule hw fun b5 w hw => ?_
  have hw : Sat R (pts b5 (.cells [.int .i64 0].toArray 3 (0, 0)) :: pts b4 (.cells [.slice none 0 0].toArray 24 (0, 0)) :: Hs) w := hw
  refine store_rule hw (by kernel_rfl) rfl (by simp [Value.cells]) fun w hw => ?_
  have hw : Sat R (pts b4 (.cells [.slice none 0 0].toArray 24 (0, 0)) :: pts b5 (.cells [.int .i64 (scanLen [] : Nat)].toArray 3 (0, 0)) :: Hs) w := hw.swap
  have hw : Sat R (OutAt b4 [] :: pts b5 (.cells [.int .i64 (scanLen [] : Nat)].toArray 3 (0, 0)) :: Hs) w :=
    Sat.outAt.2 ⟨⟨none, 0, 0⟩, hw.cons fun R' h => Sat.bytesL.2 ⟨[], rfl, Own.nil (Sat.star.2 h)⟩⟩
  refine (records_spec (s := s) hw).use ?_
  rintro _ w ⟨c, rfl, hw⟩
  refine ⟨_, rfl, RngV.mk (by kernel_rfl) hw ?_⟩
  rintro nn tmps fn D L W1 hsz ⟨h4, h5, _⟩ hw1
  have hw2 : Sat R (lp c s :: (fun pre => pts L (lrec .ready fn tmps (lpPs Try.f30) (lpAssign Try.f30) (lpBody Try.f30) D) :: OutAt b4 pre :: pts b5 (.cells [.int .i64 (scanLen pre : Nat)].toArray 3 (0, 0)) :: pts D (.deferred (some [])) :: Hs) []) W1 := hw1.arr
  refine CallsIn.mono (iter_spec (nn := nn) (L := L) hbs hlen hs (fun pre => pts L (lrec .ready fn tmps (lpPs Try.f30) (lpAssign Try.f30) (lpBody Try.f30) D) :: OutAt b4 pre :: pts b5 (.cells [.int .i64 (scanLen pre : Nat)].toArray 3 (0, 0)) :: pts D (.deferred (some [])) :: Hs) ?_ hw2) ?_
  · intro pre x W A t hpre ht hw
    have hsl := scanLen_pre hpre
    have hxl := scanLen_app pre [x]
    rw [scanLen_cons] at hxl
    have hw' : Sat R (pts L (lrec .ready fn tmps (lpPs Try.f30) (lpAssign Try.f30) (lpBody Try.f30) D) :: OutAt b4 pre :: pts b5 (.cells [.int .i64 (scanLen pre : Nat)].toArray 3 (0, 0)) :: A :: pts D (.deferred (some [])) :: Hs) W := hw.arr
    obtain ⟨f', t', a', b', hrun, hround⟩ := round_spec (m := nn - 1) hsz h4 h5 (ht.ro (by simp; omega)) (by omega) hw'
    exact ⟨f', t', a', b', hrun, RoundIn.mono hround fun e W' ⟨he, hw⟩ => ⟨he, hw.arr⟩⟩
  · rintro e W2 ⟨hv, hw⟩
    refine ⟨hv, OutAt b4 (scan bs) :: pts b5 (.cells [.int .i64 (scanLen (scan bs) : Nat)].toArray 3 (0, 0)) :: Hs, hw.arr, fun W3 hw3 => ?_⟩
    have hw3 : Sat R (OutAt b4 (scan bs) :: pts D (.deferred (some [])) :: pts b5 (.cells [.int .i64 (scanLen (scan bs) : Nat)].toArray 3 (0, 0)) :: Hs) W3 := hw3.swap
    obtain ⟨l, hw4⟩ := Sat.outAt.1 hw3
    refine drw_rule hw4 fun w hw => ?_
    refine ⟨l, At.own selfS (by exact ⟨rfl, trivial⟩), ?_⟩
    refine ⟨_, At.own selfS (by exact ⟨rfl, trivial⟩), ?_⟩
    refine ⟨R, pts b4 (.cells [.slice l.a l.len l.cap].toArray 24 (0, 0)) :: BytesL l (scan bs) :: pts b5 (.cells [.int .i64 (scanLen (scan bs) : Nat)].toArray 3 (0, 0)) :: Hs, hw.arr, fun w' hw' => ⟨l, rfl, ?_⟩⟩
    exact hw'.drop.cons fun R' h => h.drop

end Go.Proofs.Ytgfneeoponiibaa
/- Package field: Number; reading in general. Condition: none. -/
namespace Go.Proofs.Ytgfneeoponiibaa
open Go Go.VC

variable {R : Cx} {Hs Rest : List HP} {w : World}

theorem shr_nat (n k : Nat) (hk : k ≤ 64) : shrI .u64 (n : Int) (k : Int) = ((n / 2 ^ k : Nat) : Int) := by
  have e : min ((k : Int).toNat) IntKind.u64.bits = k := by rw [Int.toNat_natCast]; exact Nat.min_eq_left hk
  unfold shrI
  rw [e, Int.fdiv_eq_ediv_of_nonneg _ (by exact Int.le_of_lt (Int.pow_pos (by decide)))]
  rw [show ((2 : Int) ^ k) = ((2 ^ k : Nat) : Int) from (Int.natCast_pow 2 k).symm]
  exact (Int.natCast_ediv n (2 ^ k)).symm
theorem shr32 (n : Nat) : shrI .u64 (n : Int) 32 = ((n / 4294967296 : Nat) : Int) := shr_nat n 32 (by omega)
theorem shr16 (n : Nat) : shrI .u64 (n : Int) 16 = ((n / 65536 : Nat) : Int) := shr_nat n 16 (by omega)
theorem shr8 (n : Nat) : shrI .u64 (n : Int) 8 = ((n / 256 : Nat) : Int) := shr_nat n 8 (by omega)

theorem len64_spec {n : Nat} (hn : n < 18446744073709551616) (hw : Sat R Hs w) :
    Gets Try.prog 48 #[.int .u64 n] w fun v w' => v = .int .i64 (Lib.bitLen n : Nat) ∧ Sat R Hs w' := by
  apply call48
  refine ⟨fun x j w => ∃ m i : Nat, x = m ∧ j = i ∧ m < 4294967296 ∧ i ≤ 32 ∧ Lib.bitLen n = i + Lib.bitLen m ∧ Sat R Hs w, ?_, ?_⟩
  · refine Br.d (fun h => ?_) (fun h => ?_)
    · rw [shr32]
      exact ⟨n / 4294967296, 32, rfl, rfl, by omega, by omega, Lib.bitLen_shift32 n (by omega) hn, hw⟩
    · exact ⟨n, 0, rfl, rfl, by omega, by omega, by omega, hw⟩
  rintro _ _ _ w ⟨m, i, rfl, rfl, hm, hi, he, hw⟩
  refine ⟨fun x j w => ∃ m i : Nat, x = m ∧ j = i ∧ m < 65536 ∧ i ≤ 48 ∧ Lib.bitLen n = i + Lib.bitLen m ∧ Sat R Hs w, ?_, ?_⟩
  · refine Br.d (fun h => ?_) (fun h => ?_)
    · rw [shr16, wrap64 (by omega) (by omega)]
      exact ⟨m / 65536, i + 16, rfl, by omega, by omega, by omega, by have := Lib.bitLen_shift16 m (by omega) (by omega); omega, hw⟩
    · exact ⟨m, i, rfl, rfl, by omega, by omega, he, hw⟩
  clear hm hi he hw
  rintro _ _ _ w ⟨m, i, rfl, rfl, hm, hi, he, hw⟩
  refine Br.d (fun h => ?_) (fun h => ?_)
  · rw [shr8, wrapU8 (by omega) (by omega)]
    have h8 : Lib.bitLen (m / 256) ≤ 8 := Lib.bitLen_le8 ⟨m / 256, by omega⟩
    refine ⟨UInt8.ofNat (Lib.bitLen (m / 256)), by omega, ?_, ?_, hw⟩
    · rw [Int.toNat_natCast]
      obtain ⟨q, hq⟩ : ∃ q : Fin 256, q.1 = m / 256 := ⟨⟨m / 256, by omega⟩, rfl⟩
      rw [← hq]
      clear hq h8 hw he hi hm h
      revert q
      decide +kernel
    · have : (UInt8.ofNat (Lib.bitLen (m / 256))).toNat = Lib.bitLen (m / 256) := by simp; omega
      have h2 := Lib.bitLen_shift8 m (by omega) (by omega)
      rw [this, wrap64 (x := ((Lib.bitLen (m / 256) : Nat) : Int)) (by omega) (by omega), wrap64 (x := (i : Int) + 8) (by omega) (by omega), wrap64 (by omega) (by omega)]
      congr 1; omega
  · rw [wrapU8 (by omega) (by omega)]
    have h8 : Lib.bitLen m ≤ 8 := Lib.bitLen_le8 ⟨m, by omega⟩
    refine ⟨UInt8.ofNat (Lib.bitLen m), by omega, ?_, ?_, hw⟩
    · rw [Int.toNat_natCast]
      obtain ⟨q, hq⟩ : ∃ q : Fin 256, q.1 = m := ⟨⟨m, by omega⟩, rfl⟩
      rw [← hq]
      clear hq h8 hw he hi hm h
      revert q
      decide +kernel
    · have : (UInt8.ofNat (Lib.bitLen m)).toNat = Lib.bitLen m := by simp; omega
      rw [this, wrap64 (x := ((Lib.bitLen m : Nat) : Int)) (by omega) (by omega), wrap64 (by omega) (by omega)]
      congr 1; omega

theorem number_spec {n : Nat} (hn : n < 18446744073709551616) (hw : Sat R Hs w) :
    Gets Try.prog 28 #[.int .u64 n] w fun v w' => ∃ t : Sl, v = .slice t.a t.len t.cap ∧ Sat R (Own t 5 (b8 (numB n)) :: Hs) w' := by
  apply call28
  refine (len64_spec hn hw).use ?_
  rintro _ w ⟨rfl, hw⟩
  refine ⟨_, rfl, ?_⟩
  have hwid := dig_width n hn
  have h8 := dig_len8 hn
  generalize hL : (dig n).length = L at *
  have e : IntKind.i64.wrap ((IntKind.i64.wrap (((Lib.bitLen n : Nat) : Int) + 7)).tdiv 8) = (L : Int) := by
    rw [wrap64 (x := ((Lib.bitLen n : Nat) : Int) + 7) (by omega) (by omega), Int.tdiv_eq_ediv_of_nonneg (by omega), wrap64 (by omega) (by omega)]
    omega
  rw [e, wrapU8 (by omega) (by omega)]
  refine new_rule hw fun b w hw => ?_
  have h0 : Sat R (Own ⟨some ⟨b, 0, none⟩, 1, 1⟩ 5 (b8 [(L : Int)]) :: Hs) w := Own.of_pts (xs := b8 [(L : Int)]) (rest := []) hw
  refine ⟨fun wd out w => ∃ k : Nat, wd = k ∧ k ≤ L ∧ Sat R (Own out 5 (b8 ((L : Int) :: (dig n).take (L - k))) :: Hs) w, fun wd _ _ => wd.toNat, ⟨L, rfl, Nat.le_refl _, by simpa using h0⟩, ?_⟩
  clear hw h0
  rintro _ _ out w ⟨k, rfl, hk, hw⟩
  refine Br.d (fun h => ?_) (fun h => ?_)
  · have e1 : IntKind.i64.wrap ((k : Int) - 1) = ((k - 1 : Nat) : Int) := by rw [wrap64 (by omega) (by omega)]; omega
    have e2 : IntKind.i64.wrap (8 * ((k - 1 : Nat) : Int)) = ((8 * (k - 1) : Nat) : Int) := by rw [wrap64 (by omega) (by omega)]; omega
    rw [e1, e2, shr_nat n _ (by omega)]
    refine Ge0.mk (by omega) ?_
    have hd := dig_get (n := n) (k := k - 1) (by omega)
    have hlen : ((L : Int) :: (dig n).take (L - k)).length ≤ 9 := by simp; omega
    refine push_rule elB8 hw (one_b8 _) rfl (by rw [List.length_map]; omega) (by rw [List.length_map]; omega) fun t w hw => ⟨⟨k - 1, rfl, by omega, ?_⟩, by show ((k - 1 : Nat) : Int).toNat < (k : Int).toNat; omega⟩
    have e3 : ((L : Int) :: (dig n).take (L - (k - 1))) = ((L : Int) :: (dig n).take (L - k)) ++ [IntKind.u8.wrap ((n / 2 ^ (8 * (k - 1)) : Nat) : Int)] := by
      have e4 : L - (k - 1) = (L - k) + 1 := by omega
      rw [e4, List.take_succ_eq_append_getElem (by omega), List.cons_append]
      congr 3
      rw [wrapU8m, show (2 : Nat) ^ (8 * (k - 1)) = 256 ^ (k - 1) from by rw [Nat.pow_mul], show ((n / 256 ^ (k - 1) : Nat) : Int) % 256 = ((n / 256 ^ (k - 1) % 256 : Nat) : Int) from (Int.natCast_emod _ _).symm, ← hd]
      congr 1; omega
    rw [e3]
    simpa [b8] using hw
  · have hk0 : k = 0 := by omega
    subst hk0
    refine ⟨out, rfl, ?_⟩
    have : (dig n).take (L - 0) = dig n := List.take_of_length_le (by omega)
    rw [this] at hw
    unfold numB
    rw [hL]; exact hw

/-! ### A reader -/
abbrev rdCells (s : Sl) (bad : Bool) : Obj := .cells [.slice s.a s.len s.cap, .bool bad].toArray 98 (0, 0)
def RdAt (r : Nat) (rd : Rd) : HP := exs fun s : Sl => Star [pts r (rdCells s rd.bad), Reads s (b8 rd.bs)]
theorem Sat.rd {r : Nat} {rd : Rd} : Sat R (RdAt r rd :: Hs) w ↔ ∃ s : Sl, Sat R (pts r (rdCells s rd.bad) :: Reads s (b8 rd.bs) :: Hs) w := by
  unfold RdAt
  rw [Sat.exs]
  exact ⟨fun ⟨s, h⟩ => ⟨s, Sat.star.1 h⟩, fun ⟨s, h⟩ => ⟨s, Sat.star.2 h⟩⟩

abbrev brCell (r : Nat) : Obj := .cells [.pointer (some ⟨r, 0, none⟩)].toArray 70 (0, 0)

theorem leaveP {br r : Nat} {s : Sl} {bad : Bool} {Kr : World → Prop} (hw : Sat R (pts br (brCell r) :: pts r (rdCells s bad) :: Hs) w) (k : ∀ w, Sat R (pts br (brCell r) :: pts r (rdCells s true) :: Hs) w → Kr w) :
    LeaveF Try.prog 64 [.pointer (some ⟨br, 0, none⟩)] (.panicking amissP) Kr w := by
  unfold LeaveF
  refine CallsD.mono (callP64 (some ⟨br, 0, none⟩) (.iface 116 (.agg #[])) Kr w ?_) ?_
  · refine ⟨true, fun w' _ => by kernel_rfl, Br.t rfl ?_⟩
    refine NilP.mk rfl ⟨some ⟨r, 0, none⟩, At.own (eqS hw) (by exact ⟨rfl, trivial⟩), NilP.mk rfl ?_⟩
    have hw := hw.swap
    refine store_rule hw (by kernel_rfl) rfl (by simp [Value.cells]) fun w hw => ?_
    exact k w hw.swap
  · rintro e v w' ⟨hy, rfl, hk⟩
    exact ⟨hy, rfl, hk⟩

theorem leaveR {br : Nat} {Kr : World → Prop} (k : Kr w) : LeaveF Try.prog 64 [.pointer (some ⟨br, 0, none⟩)] .returning Kr w := by
  unfold LeaveF
  refine CallsD.mono (callR64 (some ⟨br, 0, none⟩) Kr w ?_) ?_
  · exact ⟨false, fun w' _ => by kernel_rfl, Br.f rfl k⟩
  · rintro e v w' ⟨hy, rfl, hk⟩
    exact ⟨hy, rfl, hk⟩

theorem reading_spec {r : Nat} {rd : Rd} {one : Value} {α : Type} {f : α → List Int} {Hs1 : α → List HP} {Hs2 : List HP} {G : α → Prop} {N : Prop} (hw : Sat R (RdAt r rd :: Hs) w)
    (hone : rd.bad = false → ∀ (x : Heap) (l : Nat) (s : Sl) (A B : HP) (w : World), (∀ b o, x b = some o → (R.add x).m b = some o) → SlR x s (b8 rd.bs) → Sat (R.add x) (lp l s :: A :: B :: Hs) w →
      CalW Try.prog cl one [.pointer (some ⟨l, 0, none⟩)] w fun e w' =>
        (e = .returned (.tuple #[]) ∧ ∃ y s', G y ∧ SlR x s' (b8 (f y)) ∧ Sat (R.add x) (lp l s' :: A :: B :: Hs1 y) w') ∨
        (e = .panicked amissP ∧ N ∧ ∃ s', Sat (R.add x) (lp l s' :: A :: B :: Hs2) w')) :
    Gets Try.prog 51 #[.pointer (some ⟨r, 0, none⟩), one] w fun v w' => v = .tuple #[] ∧
      ((rd.bad = true ∧ Sat R (RdAt r rd :: Hs) w') ∨ (rd.bad = false ∧ ∃ y, G y ∧ Sat R (RdAt r ⟨f y, false⟩ :: Hs1 y) w') ∨ (rd.bad = false ∧ N ∧ Sat R (RdAt r ⟨rd.bs, true⟩ :: Hs2) w')) := by
  obtain ⟨s, hw⟩ := Sat.rd.1 hw
  apply call51
  refine new_rule hw fun br w hw => ?_
  refine ⟨_, At.own (eqS hw) (by exact ⟨rfl, trivial⟩), NilP.mk rfl ?_⟩
  refine ⟨_, At.own (eqS hw) (by exact ⟨rfl, trivial⟩), must_c (fun h => .inl ⟨rfl, ?_⟩) (fun h => .inr ⟨_, rfl, ?_⟩)⟩
  · have hbad : rd.bad = false := by simpa using h
    refine ⟨_, At.own (eqS hw) (by exact ⟨rfl, trivial⟩), NilP.mk rfl ?_⟩
    refine ⟨_, At.own (eqS hw) (by exact ⟨rfl, trivial⟩), ?_⟩
    refine new_rule hw fun l w hw => ?_
    have hw : Sat R (pts l (.cells [.slice none 0 0].toArray 22 (0, 0)) :: pts br (brCell r) :: pts r (rdCells s rd.bad) :: Reads s (b8 rd.bs) :: Hs) w := hw
    refine store_rule hw (by kernel_rfl) rfl (by simp [Value.cells]) fun w hw => ?_
    have hw : Sat R (lp l s :: pts br (brCell r) :: pts r (rdCells s rd.bad) :: Reads s (b8 rd.bs) :: Hs) w := hw
    have hw : Sat R (Reads s (b8 rd.bs) :: lp l s :: pts br (brCell r) :: pts r (rdCells s rd.bad) :: Hs) w := hw.arr
    obtain ⟨x, hd, _, hx, hs⟩ := Reads.lend hw
    have hsub : ∀ b o, x b = some o → (R.add x).m b = some o := fun b o hb => by
      have := hd b (by rw [hb]; simp)
      simp only [Cx.add, Heap.add, this, hb]
    refine CalW.mono (hone hbad x l s _ _ w hsub hs hx) ?_
    rintro e w' (⟨rfl, bs', s', hg, hs', hw⟩ | ⟨rfl, hn, s', hw⟩)
    · refine .inl ⟨rfl, ?_⟩
      have hw : Sat (R.add x) (pts br (brCell r) :: pts r (rdCells s rd.bad) :: lp l s' :: Hs1 bs') w' := hw.arr
      refine ⟨_, At.own (eqS hw) (by exact ⟨rfl, trivial⟩), ?_⟩
      refine ⟨_, At.own (eqS hw) (by exact ⟨rfl, trivial⟩), NilP.mk rfl ?_⟩
      have hw : Sat (R.add x) (pts r (rdCells s rd.bad) :: lp l s' :: pts br (brCell r) :: Hs1 bs') w' := hw.arr
      refine store_rule hw (by kernel_rfl) rfl (by simp [Value.cells]) fun w hw => ?_
      refine leaveR ⟨rfl, .inr (.inl ⟨hbad, bs', hg, ?_⟩)⟩
      have hw : Sat (R.add x) (pts r (rdCells s' rd.bad) :: lp l s' :: pts br (brCell r) :: Hs1 bs') w := hw
      rw [hbad] at hw
      have hw : Sat (R.add x) (pts r (rdCells s' false) :: Hs1 bs') w := hw.cons fun _ h => h.drop.drop
      refine Sat.rd.2 ⟨s', ?_⟩
      exact (Reads.back hd hs' hw).swap
    · refine .inr ⟨_, rfl, ?_⟩
      have hw : Sat (R.add x) (pts br (brCell r) :: pts r (rdCells s rd.bad) :: lp l s' :: Hs2) w' := hw.arr
      refine leaveP hw fun w hw => ⟨rfl, .inr (.inr ⟨hbad, hn, ?_⟩)⟩
      have hw : Sat (R.add x) (pts r (rdCells s true) :: Hs2) w := hw.drop.cons fun _ h => h.drop
      refine Sat.rd.2 ⟨s, ?_⟩
      exact (Reads.back hd hs hw).swap
  · have hbad : rd.bad = true := by simpa using h
    have hw : Sat R (pts br (brCell r) :: pts r (rdCells s rd.bad) :: Reads s (b8 rd.bs) :: Hs) w := hw
    refine leaveP hw fun w hw => ⟨rfl, .inl ⟨hbad, ?_⟩⟩
    rw [← hbad] at hw
    exact Sat.rd.2 ⟨s, hw.drop⟩

end Go.Proofs.Ytgfneeoponiibaa
/- Package field: a reader's New, Number, Whole. Condition: bounds on lengths. -/
namespace Go.Proofs.Ytgfneeoponiibaa
open Go Go.VC

variable {R : Cx} {Hs Rest : List HP} {w : World}

theorem CalW.mk {g : FuncId} {captured : Array Value} {args : List Value} {Q : Ending → World → Prop} (hc : cl g = true) (h : Calls Try.prog g (args ++ captured.toList).toArray w Q) : CalW Try.prog cl (.func (.func g) #[] captured) args w Q := by
  unfold CalW
  simp only [hc]
  exact h

theorem fnew_spec {s : Sl} {bs : List Int} (hs : Ro R s (b8 bs)) (hl : bs.length ≤ 1099511627776) (hw : Sat R Hs w) :
    Gets Try.prog 31 #[.slice s.a s.len s.cap] w fun v w' => ∃ r, v = .pointer (some ⟨r, 0, none⟩) ∧ Sat R (RdAt r ⟨bs, false⟩ :: Hs) w' := by
  apply call31
  refine (clone_spec hs hl hw).use ?_
  rintro _ w ⟨t, rfl, hw⟩
  refine ⟨t, rfl, ?_⟩
  have hw := Own.reads hw
  refine new_rule hw fun r w hw => ⟨r, rfl, Sat.rd.2 ⟨t, hw⟩⟩

theorem whole_spec {r : Nat} {rd : Rd} (hw : Sat R (RdAt r rd :: Hs) w) :
    Gets Try.prog 33 #[.pointer (some ⟨r, 0, none⟩)] w fun v w' => v = .bool (rdWhole rd) ∧ Sat R (RdAt r rd :: Hs) w' := by
  obtain ⟨s, hw⟩ := Sat.rd.1 hw
  have hsl : s.len = rd.bs.length := by
    obtain ⟨x, _, _, _, hx⟩ := Reads.lend hw.swap
    have := hx.len; simpa using this
  apply call33
  refine NilP.mk rfl ⟨rd.bad, At.own (eqS hw) (by exact ⟨rfl, trivial⟩), Br.nb (fun h => ?_) (fun h => ?_)⟩
  · refine NilP.mk rfl ?_
    refine ⟨s, At.own (eqS hw) (by exact ⟨rfl, trivial⟩), ?_, Sat.rd.2 ⟨s, hw⟩⟩
    unfold rdWhole
    rw [h, hsl]
    congr 1
    simp only [Bool.not_false, Bool.true_and]
    cases rd.bs with
    | nil => rfl
    | cons => simp; omega
  · refine ⟨?_, Sat.rd.2 ⟨s, hw⟩⟩
    unfold rdWhole
    rw [h]; rfl

theorem num1_spec {h : Heap} {l bm bo : Nat} {s : Sl} {bs : List Int} {most : Int} (hb : ∀ x ∈ bs, 0 ≤ x ∧ x < 256) (hsub : ∀ b o, h b = some o → R.m b = some o) (hr : SlR h s (b8 bs))
    (hw : Sat R (lp l s :: pts bo (.cells [.int .u64 0].toArray 66 (0, 0)) :: pts bm (.cells [.int .u64 most].toArray 66 (0, 0)) :: Hs) w) :
    GetsX Try.prog 52 #[.pointer (some ⟨l, 0, none⟩), .pointer (some ⟨bm, 0, none⟩), .pointer (some ⟨bo, 0, none⟩)] w
      (fun ch w' => ch = amissP ∧ (∀ n k, parse bs = some (n, false, k) → ¬ n ≤ most) ∧ ∃ s', Sat R (lp l s' :: pts bo (.cells [.int .u64 0].toArray 66 (0, 0)) :: pts bm (.cells [.int .u64 most].toArray 66 (0, 0)) :: Hs) w')
      (fun v w' => v = .tuple #[] ∧ ∃ n k s', parse bs = some (n, false, k) ∧ n ≤ most ∧ SlR h s' (b8 (bs.drop k)) ∧
        Sat R (lp l s' :: pts bo (.cells [.int .u64 n].toArray 66 (0, 0)) :: pts bm (.cells [.int .u64 most].toArray 66 (0, 0)) :: Hs) w') := by
  apply call52
  refine (fsize_spec hb hsub hr hw).use ?_ ?_
  rotate_left
  · rintro _ w ⟨hp, rfl, s', hw⟩
    refine .inr ⟨_, rfl, rfl, ?_, s', hw⟩
    intro n k h; rw [hp] at h; cases h
  rintro _ w ⟨n, neg, k, s', hp, rfl, hs', hw⟩
  refine .inl ⟨n, neg, rfl, Br.nb (fun h => ?_) (fun h => ?_)⟩
  · subst h
    have hw2 : Sat R (pts bm (.cells [.int .u64 most].toArray 66 (0, 0)) :: lp l s' :: pts bo (.cells [.int .u64 0].toArray 66 (0, 0)) :: Hs) w := hw.arr
    refine NilP.mk rfl ?_
    refine ⟨most, At.own (eqS hw) (by exact ⟨rfl, trivial⟩), must_c (fun h => .inl ⟨rfl, ?_⟩) (fun h => .inr ⟨_, rfl, rfl, ?_, s', hw⟩)⟩
    · have h := of_decide_eq_true h
      have hw : Sat R (pts bo (.cells [.int .u64 0].toArray 66 (0, 0)) :: lp l s' :: pts bm (.cells [.int .u64 most].toArray 66 (0, 0)) :: Hs) w := hw.swap
      refine store_rule hw (by kernel_rfl) rfl (by simp [Value.cells]) fun w hw => ?_
      exact ⟨rfl, n, k, s', hp, h, hs', hw.swap⟩
    · have h := of_decide_eq_false h
      intro n' k' hp'
      rw [hp] at hp'
      simp only [Option.some.injEq, Prod.mk.injEq, true_and] at hp'
      rw [← hp'.1]; exact h
  · subst h
    refine must_c (fun h => by cases h) (fun _ => .inr ⟨_, rfl, rfl, ?_, s', hw⟩)
    intro n' k' hp'
    rw [hp] at hp'
    simp at hp'

theorem rnum_spec {r : Nat} {rd : Rd} {most : Int} (hb : ∀ x ∈ rd.bs, 0 ≤ x ∧ x < 256) (hw : Sat R (RdAt r rd :: Hs) w) :
    Gets Try.prog 32 #[.pointer (some ⟨r, 0, none⟩), .int .u64 most] w fun v w' => v = .int .u64 (rdNum most rd).1 ∧ Sat R (RdAt r (rdNum most rd).2 :: Hs) w' := by
  apply call32
  refine new_rule hw fun bm w hw => new_rule hw fun bo w hw => ?_
  have hw : Sat R (pts bo (.cells [.int .u64 0].toArray 66 (0, 0)) :: pts bm (.cells [.int .u64 most].toArray 66 (0, 0)) :: RdAt r rd :: Hs) w := hw
  refine store_rule hw (by kernel_rfl) rfl (by simp [Value.cells]) fun w hw => ?_
  have hw := hw.re (pts bo (.cells [.int .u64 0].toArray 66 (0, 0)))
  have hw : Sat R (RdAt r rd :: pts bo (.cells [.int .u64 0].toArray 66 (0, 0)) :: pts bm (.cells [.int .u64 most].toArray 66 (0, 0)) :: Hs) w := hw.arr
  refine (reading_spec (α := Int × Nat) (f := fun y => rd.bs.drop y.2) (G := fun y => parse rd.bs = some (y.1, false, y.2) ∧ y.1 ≤ most) (N := ∀ n k, parse rd.bs = some (n, false, k) → ¬ n ≤ most)
    (Hs1 := fun y => pts bo (.cells [.int .u64 y.1].toArray 66 (0, 0)) :: pts bm (.cells [.int .u64 most].toArray 66 (0, 0)) :: Hs)
    (Hs2 := pts bo (.cells [.int .u64 0].toArray 66 (0, 0)) :: pts bm (.cells [.int .u64 most].toArray 66 (0, 0)) :: Hs) hw ?_).use ?_
  · intro _ x l s A B w hsub hs hw
    refine CalW.mk (by kernel_rfl) ?_
    have hw2 : Sat (R.add x) (lp l s :: pts bo (.cells [.int .u64 0].toArray 66 (0, 0)) :: pts bm (.cells [.int .u64 most].toArray 66 (0, 0)) :: A :: B :: Hs) w := hw.arr
    refine (num1_spec (h := x) hb hsub hs hw2).use ?_ ?_
    · rintro _ w ⟨rfl, n, k, s', hp, hn, hs', hw⟩
      exact .inl ⟨rfl, (n, k), s', ⟨hp, hn⟩, hs', hw.arr⟩
    · rintro _ w ⟨rfl, hn, s', hw⟩
      exact .inr ⟨rfl, hn, s', hw.arr⟩
  · rintro _ w ⟨rfl, h⟩
    refine ⟨rfl, ?_⟩
    rcases h with ⟨hbad, hw⟩ | ⟨hbad, ⟨n, k⟩, ⟨hp, hn⟩, hw⟩ | ⟨hbad, hno, hw⟩
    · have hw : Sat R (pts bo (.cells [.int .u64 0].toArray 66 (0, 0)) :: RdAt r rd :: pts bm (.cells [.int .u64 most].toArray 66 (0, 0)) :: Hs) w := hw.swap
      refine ⟨0, At.own (eqS hw) (by exact ⟨rfl, trivial⟩), ?_⟩
      unfold rdNum
      rw [if_pos hbad]
      exact ⟨rfl, hw.drop.cons fun _ h => h.drop⟩
    · have hw : Sat R (pts bo (.cells [.int .u64 n].toArray 66 (0, 0)) :: RdAt r ⟨rd.bs.drop k, false⟩ :: pts bm (.cells [.int .u64 most].toArray 66 (0, 0)) :: Hs) w := hw.swap
      refine ⟨n, At.own (eqS hw) (by exact ⟨rfl, trivial⟩), ?_⟩
      unfold rdNum
      rw [if_neg (by rw [hbad]; simp), hp]
      simp only
      rw [if_pos (by simpa using hn)]
      exact ⟨rfl, hw.drop.cons fun _ h => h.drop⟩
    · have hw : Sat R (pts bo (.cells [.int .u64 0].toArray 66 (0, 0)) :: RdAt r ⟨rd.bs, true⟩ :: pts bm (.cells [.int .u64 most].toArray 66 (0, 0)) :: Hs) w := hw.swap
      refine ⟨0, At.own (eqS hw) (by exact ⟨rfl, trivial⟩), ?_⟩
      have e : rdNum most rd = (0, ⟨rd.bs, true⟩) := by
        unfold rdNum
        rw [if_neg (by rw [hbad]; simp)]
        cases hp : parse rd.bs with
        | none => rfl
        | some p =>
          obtain ⟨n, neg, k⟩ := p
          simp only
          rw [if_neg]
          rintro ⟨rfl, h⟩
          exact hno n k hp h
      rw [e]
      exact ⟨rfl, hw.drop.cons fun _ h => h.drop⟩

theorem rdNum_bd {most : Int} {rd : Rd} (hb : ∀ x ∈ rd.bs, 0 ≤ x ∧ x < 256) : ∀ x ∈ (rdNum most rd).2.bs, 0 ≤ x ∧ x < 256 := by
  unfold rdNum
  split
  · exact hb
  · split
    · split
      · exact fun x hx => hb x (List.mem_of_mem_drop hx)
      · exact hb
    · exact hb
theorem rdNum_val {most : Int} {rd : Rd} (hb : ∀ x ∈ rd.bs, 0 ≤ x ∧ x < 256) (hm : 0 ≤ most) : 0 ≤ (rdNum most rd).1 ∧ (rdNum most rd).1 ≤ most := by
  unfold rdNum
  split
  · exact ⟨Int.le_refl _, hm⟩
  · split
    · rename_i n neg k hp
      split
      · rename_i h; exact ⟨(parse_bd hb hp).1, h.2⟩
      · exact ⟨Int.le_refl _, hm⟩
    · exact ⟨Int.le_refl _, hm⟩

end Go.Proofs.Ytgfneeoponiibaa
/- Package keep: writing a file whole. Condition: bounds on lengths. -/
namespace Go.Proofs.Ytgfneeoponiibaa
open Go Go.VC

variable {R : Cx} {Hs Rest : List HP} {w : World}

/-! ### slices.Contains of names -/
instance memDec (k : ByteArray) (l : List ByteArray) : Decidable (k ∈ l) := @List.instDecidableMemOfLawfulBEq ByteArray instBEqOfDecidableEq inferInstance k l

theorem index_spec {s : Sl} {l : List ByteArray} {k : ByteArray} (hs : Ro R s (l.map Value.string)) (hw : Sat R Hs w) :
    Gets Try.prog 38 #[.slice s.a s.len s.cap, .string k] w fun v w' => (∃ n : Int, v = .int .i64 n ∧ (k ∈ l ↔ 0 ≤ n)) ∧ Sat R Hs w' := by
  have hlen : s.len = l.length := by have := hs.len; simpa using this
  have hbd : l.length ≤ 9223372036854775807 := by have := hs.bound; simpa using this
  apply call38
  refine ⟨fun t w => ∃ j : Nat, t = j ∧ j ≤ l.length ∧ k ∉ l.take j ∧ Sat R Hs w, fun t _ => l.length - t.toNat, ⟨0, rfl, by omega, by simp, hw⟩, ?_⟩
  rintro _ _ w ⟨j, rfl, hj, hno, hw⟩
  refine Br.d (fun h => ?_) (fun h => ?_)
  · have hjl : j < l.length := by omega
    have := Ro.idxStr (S := fun w' => w' = w) hs (eqS hw) (k := j) hjl (F := fun t => t = l[j]) rfl
    obtain ⟨h0, h1, this⟩ := this.out
    obtain ⟨a, ha, t, hat, rfl⟩ := this.out
    refine Rng.mk h0 h1 (NilP.mk ha ⟨_, hat, ?_⟩)
    rw [str_eql]
    refine Br.d (fun h => ?_) (fun h => ?_)
    · exact ⟨⟨j, rfl, ⟨fun _ => by omega, fun _ => by rw [h]; exact List.getElem_mem _⟩⟩, hw⟩
    · rw [wrap64 (by omega) (by omega)]
      refine ⟨⟨j + 1, by omega, by omega, ?_, hw⟩, by dsimp only; omega⟩
      rw [List.take_succ_eq_append_getElem hjl, List.mem_append]
      rintro (h2 | h2)
      · exact hno h2
      · simp at h2; exact h h2
  · have : j = l.length := by omega
    subst this
    rw [List.take_length] at hno
    exact ⟨⟨-1, rfl, ⟨fun h => absurd h hno, fun h => by omega⟩⟩, hw⟩

theorem contains_spec {s : Sl} {l : List ByteArray} {k : ByteArray} (hs : Ro R s (l.map Value.string)) (hw : Sat R Hs w) :
    Gets Try.prog 22 #[.slice s.a s.len s.cap, .string k] w fun v w' => v = .bool (decide (k ∈ l)) ∧ Sat R Hs w' := by
  apply call22
  refine (index_spec hs hw).use ?_
  rintro _ w ⟨⟨n, rfl, hn⟩, hw⟩
  refine ⟨n, rfl, ?_, hw⟩
  congr 1
  rw [decide_eq_decide]
  exact hn.symm

/-! ### Writing -/
def nextOf (name : ByteArray) : ByteArray := name ++ ByteArray.mk #[46, 110, 101, 119]
def writeGo (st : DS) (name : ByteArray) (b : List Int) : DS × Int :=
  if (appendD st (nextOf name) (recB b)).2 ≠ 0 then appendD st (nextOf name) (recB b)
  else if (syncD (appendD st (nextOf name) (recB b)).1 (nextOf name)).2 ≠ 0 then syncD (appendD st (nextOf name) (recB b)).1 (nextOf name)
  else renameD (syncD (appendD st (nextOf name) (recB b)).1 (nextOf name)).1 (nextOf name) name
def writeD (st : DS) (name : ByteArray) (b : List Int) : DS × Int :=
  if b.length > 65536 then (st, 3)
  else if nextOf name ∈ namesOf st.fs then
    if (unlinkD st (nextOf name)).2 ≠ 0 then unlinkD st (nextOf name) else writeGo (unlinkD st (nextOf name)).1 name b
  else writeGo st name b

/-- What is written, once its bytes are known. -/
def WriteT (d0 : Option Addr) (name1 : ByteArray) (t19 : Sl) (K : Value → World → Prop) (w_3 : World) : Prop :=
  Calls Try.prog 21 #[.slice t19.a t19.len t19.cap] w_3 fun e_1 w_4 =>
  ∃ t30 : Sl, ∃ t30_1 : Int, (e_1 = .returned (.tuple #[.slice t30.a t30.len t30.cap, .int .i64 t30_1])) ∧
  Br (t30_1 != 0)
   (K (.int .i64 t30_1) w_4)
   ((((↑(name1.size + (ByteArray.mk #[46, 110, 101, 119]).size) : Int) : Int) ≤ 9223372036854775807) ∧
    ∃ (J_1 : World → Prop), (Calls Try.prog 23 #[.pointer d0] w_4 fun e_2 w_5 =>
      ∃ t39 : Sl, (e_2 = .returned (.slice t39.a t39.len t39.cap)) ∧
      Calls Try.prog 22 #[.slice t39.a t39.len t39.cap, .string (name1 ++ ByteArray.mk #[46, 110, 101, 119])] w_5 fun e_3 w_6 =>
      ∃ t41 : Bool, (e_3 = .returned (.bool t41)) ∧
      Br t41
       (Calls Try.prog 24 #[.pointer d0, .string (name1 ++ ByteArray.mk #[46, 110, 101, 119])] w_6 fun e_4 w_7 =>
        ∃ t44 : Int, (e_4 = .returned (.int .i64 t44)) ∧
        Br (t44 != 0)
         (K (.int .i64 t44) w_7)
         (J_1  w_7))
       (J_1  w_6)) ∧
    ∀ (z_1 : Env)  (w_8 : World), J_1  w_8 →
    Calls Try.prog 25 #[.pointer d0, .string (name1 ++ ByteArray.mk #[46, 110, 101, 119]), .slice t30.a t30.len t30.cap] w_8 fun e_5 w_9 =>
    ∃ t51 : Int, (e_5 = .returned (.int .i64 t51)) ∧
    Br (t51 != 0)
     (K (.int .i64 t51) w_9)
     (Calls Try.prog 26 #[.pointer d0, .string (name1 ++ ByteArray.mk #[46, 110, 101, 119])] w_9 fun e_6 w_10 =>
      ∃ t57 : Int, (e_6 = .returned (.int .i64 t57)) ∧
      Br (t57 != 0)
       (K (.int .i64 t57) w_10)
       (Calls Try.prog 27 #[.pointer d0, .string (name1 ++ ByteArray.mk #[46, 110, 101, 119]), .string name1] w_10 fun e_7 w_11 =>
        ∃ t64 : Int, (e_7 = .returned (.int .i64 t64)) ∧
        K (.int .i64 t64) w_11)))

theorem writeT_of {d : Nat} {st : DS} {name : ByteArray} {t : Sl} {b : List Int} {K : Value → World → Prop} (i : Inv st) (hc : st.fs.length ≤ 1000000) (hname : name.size ≤ 1000) (hb : ∀ x ∈ b, 0 ≤ x ∧ x < 256) (hs : Ro R t (b8 b)) (hw : Sat R (DiskAt d st :: Hs) w)
    (hK : ∀ w', Sat R (DiskAt d (writeD st name b).1 :: Hs) w' → K (.int .i64 (writeD st name b).2) w') : WriteT (some ⟨d, 0, none⟩) name t K w := by
  unfold WriteT
  refine (rput_spec hb hs hw).use ?_
  rintro _ w (⟨hbig, rfl, hw⟩ | ⟨hbl, t2, rfl, hw⟩)
  · refine ⟨⟨none, 0, 0⟩, 3, rfl, Br.ne (fun h => ?_) (fun h => by cases h)⟩
    have e : writeD st name b = (st, 3) := if_pos hbig
    rw [e] at hK
    exact hK w hw
  · refine ⟨t2, 0, rfl, Br.ne (fun h => absurd rfl h) (fun _ => ?_)⟩
    have hrl : (recB b).length ≤ 65544 := by rw [recB_len]; omega
    obtain ⟨R', hr2, hkeep, hw, back⟩ := Own.lend hw (by simp; omega)
    have hgoK : ∀ st', Inv st' → (∀ w', Sat R (DiskAt d (writeGo st' name b).1 :: Hs) w' → K (.int .i64 (writeGo st' name b).2) w') → ∀ w, Sat R' (DiskAt d st' :: Hs) w →
        Calls Try.prog 25 #[.pointer (some ⟨d, 0, none⟩), .string (name ++ ByteArray.mk #[46, 110, 101, 119]), .slice t2.a t2.len t2.cap] w fun e_5 w_9 =>
        ∃ t51 : Int, (e_5 = .returned (.int .i64 t51)) ∧
        Br (t51 != 0)
         (K (.int .i64 t51) w_9)
         (Calls Try.prog 26 #[.pointer (some ⟨d, 0, none⟩), .string (name ++ ByteArray.mk #[46, 110, 101, 119])] w_9 fun e_6 w_10 =>
          ∃ t57 : Int, (e_6 = .returned (.int .i64 t57)) ∧
          Br (t57 != 0)
           (K (.int .i64 t57) w_10)
           (Calls Try.prog 27 #[.pointer (some ⟨d, 0, none⟩), .string (name ++ ByteArray.mk #[46, 110, 101, 119]), .string name] w_10 fun e_7 w_11 =>
            ∃ t64 : Int, (e_7 = .returned (.int .i64 t64)) ∧
            K (.int .i64 t64) w_11)) := by
      intro st' i' hK' w hw
      refine (append_spec (k := nextOf name) (xs := recB b) i' hr2 (by omega) hw).use ?_
      rintro _ w ⟨rfl, hw⟩
      refine ⟨_, rfl, Br.ne (fun h => ?_) (fun h => ?_)⟩
      · have e : writeGo st' name b = appendD st' (nextOf name) (recB b) := if_pos h
        rw [e] at hK'
        exact hK' w (back hw).drop
      · have i1 := appendD_inv i' (nextOf name) (recB b)
        refine (sync_spec (k := nextOf name) i1 hw).use ?_
        rintro _ w ⟨rfl, hw⟩
        refine ⟨_, rfl, Br.ne (fun h2 => ?_) (fun h2 => ?_)⟩
        · have e : writeGo st' name b = syncD (appendD st' (nextOf name) (recB b)).1 (nextOf name) := by unfold writeGo; rw [if_neg (by simpa using h), if_pos h2]
          rw [e] at hK'
          exact hK' w (back hw).drop
        · have i2 := sync_inv i1 (nextOf name)
          refine (rename_spec (k := nextOf name) (to := name) i2 hw).use ?_
          rintro _ w ⟨rfl, hw⟩
          refine ⟨_, rfl, ?_⟩
          have e : writeGo st' name b = renameD (syncD (appendD st' (nextOf name) (recB b)).1 (nextOf name)).1 (nextOf name) name := by unfold writeGo; rw [if_neg (by simpa using h), if_neg (by simpa using h2)]
          rw [e] at hK'
          exact hK' w (back hw).drop
    have hbig : ¬ b.length > 65536 := by omega
    refine ⟨by show ((name.size + 4 : Nat) : Int) ≤ _; omega, ?_⟩
    refine ⟨fun w => ∃ st', Inv st' ∧ (∀ w', Sat R (DiskAt d (writeGo st' name b).1 :: Hs) w' → K (.int .i64 (writeGo st' name b).2) w') ∧ Sat R' (DiskAt d st' :: Hs) w, ?_, fun _ w ⟨st', i', hK', hw⟩ => hgoK st' i' hK' w hw⟩
    refine (names_spec i hc hw).use ?_
    rintro _ w ⟨l, rfl, hw⟩
    refine ⟨l, rfl, ?_⟩
    obtain ⟨R2, hrl2, _, hw, back2⟩ := Own.lend hw (by rw [List.length_map, namesOf_len]; omega)
    refine (contains_spec (k := nextOf name) hrl2 hw).use ?_
    rintro _ w ⟨rfl, hw⟩
    have hw := (back2 hw).drop
    refine ⟨_, rfl, Br.d (fun h => ?_) (fun h => ?_)⟩
    · refine (unlink_spec (k := nextOf name) i hw).use ?_
      rintro _ w ⟨rfl, hw⟩
      refine ⟨_, rfl, Br.ne (fun h2 => ?_) (fun h2 => ?_)⟩
      · have e : writeD st name b = unlinkD st (nextOf name) := by unfold writeD; rw [if_neg hbig, if_pos h, if_pos h2]
        rw [e] at hK
        exact hK w (back hw).drop
      · have e : writeD st name b = writeGo (unlinkD st (nextOf name)).1 name b := by unfold writeD; rw [if_neg hbig, if_pos h, if_neg (by simpa using h2)]
        rw [e] at hK
        exact ⟨_, unlink_inv i _, hK, hw⟩
    · have e : writeD st name b = writeGo st name b := by unfold writeD; rw [if_neg hbig, if_neg h]
      rw [e] at hK
      exact ⟨st, i, hK, hw⟩

end Go.Proofs.Ytgfneeoponiibaa
/- Package keep: a hard state's bytes. Condition: none. -/
namespace Go.Proofs.Ytgfneeoponiibaa
open Go Go.VC

variable {R : Cx} {Hs Rest : List HP} {w : World}

theorem within_spec (n m : Int) (hw : Sat R Hs w) : Gets Try.prog 15 #[.int .i64 n, .int .i64 m] w fun v w' => v = .bool (decide (0 ≤ n ∧ n ≤ m)) ∧ Sat R Hs w' := by
  apply call15
  refine Br.d (fun h => ?_) (fun h => ?_)
  · refine ⟨?_, hw⟩
    congr 1
    rw [decide_eq_decide]
    omega
  · refine ⟨?_, hw⟩
    rw [decide_eq_false (by omega)]

def hardOk (t v : Int) : Prop := (0 ≤ t ∧ t ≤ 1099511627776) ∧ (0 ≤ v ∧ v ≤ 15)
def hardB (t v : Int) : List Int := numB t.toNat ++ numB v.toNat

theorem hardB_bd {t v : Int} (h : hardOk t v) : ∀ x ∈ hardB t v, 0 ≤ x ∧ x < 256 := by
  obtain ⟨h1, h2⟩ := h
  intro x hx
  rcases List.mem_append.1 hx with hx | hx
  · exact numB_bd (by omega) x hx
  · exact numB_bd (by omega) x hx

theorem encHard_spec (t v : Int) (hw : Sat R Hs w) : Gets Try.prog 18 #[.agg #[.int .i64 t, .int .i64 v]] w fun r w' =>
    (¬ hardOk t v ∧ r = .tuple #[.slice none 0 0, .int .i64 1] ∧ Sat R Hs w') ∨ (hardOk t v ∧ ∃ s : Sl, r = .tuple #[.slice s.a s.len s.cap, .int .i64 0] ∧ Sat R (Own s 5 (b8 (hardB t v)) :: Hs) w') := by
  apply call18
  refine new_rule hw fun bh w hw => ?_
  have hw : Sat R (pts bh (.cells [.int .i64 t, .int .i64 v].toArray 46 (0, 0)) :: Hs) w := hw
  refine ⟨t, At.own (eqS hw) (by exact ⟨rfl, trivial⟩), (within_spec t _ hw).use ?_⟩
  rintro _ w ⟨rfl, hw⟩
  refine ⟨_, rfl, Br.nb (fun h => ?_) (fun h => ?_)⟩
  · have h := of_decide_eq_false h
    exact .inl ⟨fun hk => h hk.1, rfl, hw.drop⟩
  have ht := of_decide_eq_true h
  refine ⟨v, At.own (eqS hw) (by exact ⟨rfl, trivial⟩), (within_spec v _ hw).use ?_⟩
  rintro _ w ⟨rfl, hw⟩
  refine ⟨_, rfl, Br.nb (fun h => ?_) (fun h => ?_)⟩
  · have h := of_decide_eq_false h
    exact .inl ⟨fun hk => h hk.2, rfl, hw.drop⟩
  have hv := of_decide_eq_true h
  refine drw_rule' (Sat R [pts bh (.cells [.int .i64 t, .int .i64 v].toArray 46 (0, 0)), VC.tru]) hw (fun w hw => hw.restTru) fun w hw => ?_
  refine ⟨t, At.own selfS (by exact ⟨rfl, trivial⟩), ?_⟩
  refine ⟨v, At.own selfS (by exact ⟨rfl, trivial⟩), ?_⟩
  rw [wrapU64 (x := t) (by omega) (by omega), wrapU64 (x := v) (by omega) (by omega)]
  obtain ⟨tn, rfl⟩ := Int.eq_ofNat_of_zero_le ht.1
  obtain ⟨vn, rfl⟩ := Int.eq_ofNat_of_zero_le hv.1
  refine (number_spec (n := tn) (by omega) hw).use ?_
  rintro _ w ⟨s1, rfl, hw⟩
  refine ⟨s1, rfl, hw.swap.restTru, ?_⟩
  refine (number_spec (n := vn) (by omega) hw).use ?_
  rintro _ w ⟨s2, rfl, hw⟩
  have hw2 : Sat R (pts bh (.cells [.int .i64 tn, .int .i64 vn].toArray 46 (0, 0)) :: Own s2 5 (b8 (numB vn)) :: Own s1 5 (b8 (numB tn)) :: Hs) w := hw.arr
  refine ⟨s2, rfl, hw2.restTru, ?_⟩
  have hl1 := numB_len (n := tn) (by omega)
  have hl2 := numB_len (n := vn) (by omega)
  obtain ⟨R', hr2, _, hw3, back⟩ := Own.lend hw (by simp; omega)
  have hsrc : Src Try.prog 1 22 (.slice s2.a s2.len s2.cap) (numB vn).length (b8 (numB vn)) w := by
    have := srcRo Try.underlying22 hw3 hr2 (one_b8 _)
    simpa using this
  refine append_rule elB8 (s := s1) hw3 hsrc (one_b8 _) (by rw [List.length_map]; omega) (by rw [List.length_map]; omega) fun s3 w hw => ?_
  have hw := (back hw).drop
  have e : b8 (numB tn) ++ b8 (numB vn) = b8 (hardB tn vn) := by simp [hardB, b8]
  rw [e] at hw
  refine ⟨hw.swap.restTru, .inr ⟨⟨ht, hv⟩, s3, rfl, hw.cons fun _ h => h.drop⟩⟩

/-- A hard state out of bytes. -/
def decHard (x : List Int) : (Int × Int) × Int :=
  if rdWhole (rdNum 15 (rdNum 1099511627776 ⟨x, false⟩).2).2 then (((rdNum 1099511627776 ⟨x, false⟩).1, (rdNum 15 (rdNum 1099511627776 ⟨x, false⟩).2).1), 0) else ((0, 0), 6)

theorem decHard_spec {s : Sl} {x : List Int} (hb : ∀ y ∈ x, 0 ≤ y ∧ y < 256) (hs : Ro R s (b8 x)) (hl : x.length ≤ 1099511627776) (hw : Sat R Hs w) :
    Gets Try.prog 20 #[.slice s.a s.len s.cap] w fun r w' => r = .tuple #[.agg #[.int .i64 (decHard x).1.1, .int .i64 (decHard x).1.2], .int .i64 (decHard x).2] ∧ Sat R Hs w' := by
  apply call20
  refine new_rule hw fun b2 w hw => ?_
  have hw : Sat R (pts b2 (.cells [.int .i64 0, .int .i64 0].toArray 46 (0, 0)) :: Hs) w := hw
  refine (fnew_spec hs hl hw).use ?_
  rintro _ w ⟨r, rfl, hw⟩
  refine ⟨_, rfl, (rnum_spec (most := 1099511627776) hb hw).use ?_⟩
  rintro _ w ⟨rfl, hw⟩
  have hb1 := rdNum_bd (most := 1099511627776) (rd := ⟨x, false⟩) hb
  have hv1 := rdNum_val (most := 1099511627776) (rd := ⟨x, false⟩) hb (by omega)
  refine ⟨_, rfl, (rnum_spec (most := 15) hb1 hw).use ?_⟩
  rintro _ w ⟨rfl, hw⟩
  have hv2 := rdNum_val (most := 15) hb1 (by omega)
  refine ⟨_, rfl, ?_⟩
  refine new_rule hw fun bh w hw => ?_
  have hw : Sat R (pts bh (.cells [.int .i64 0, .int .i64 0].toArray 46 (0, 0)) :: RdAt r (rdNum 15 (rdNum 1099511627776 ⟨x, false⟩).2).2 :: pts b2 (.cells [.int .i64 0, .int .i64 0].toArray 46 (0, 0)) :: Hs) w := hw
  rw [wrap64 (by omega) (by omega), wrap64 (by omega) (by omega)]
  unfold decHard
  generalize rdNum 1099511627776 ⟨x, false⟩ = a at *
  generalize rdNum 15 a.2 = b at *
  refine store_rule hw (by kernel_rfl) rfl (by simp [Value.cells]) fun w hw => ?_
  have hw := hw.re (pts bh (.cells [.int .i64 a.1, .int .i64 b.1].toArray 46 (0, 0)))
  refine (whole_spec hw.swap).use ?_
  rintro _ w ⟨rfl, hw⟩
  refine ⟨_, rfl, Br.nb (fun h => ?_) (fun h => ?_)⟩
  · rw [if_neg (by rw [h]; simp)]
    have hw : Sat R (pts b2 (.cells [.int .i64 0, .int .i64 0].toArray 46 (0, 0)) :: RdAt r b.2 :: pts bh (.cells [.int .i64 a.1, .int .i64 b.1].toArray 46 (0, 0)) :: Hs) w := hw.arr
    refine store_rule hw (by kernel_rfl) rfl (by simp [Value.cells]) fun w hw => ?_
    have hw := hw.re (pts b2 (.cells [.int .i64 0, .int .i64 0].toArray 46 (0, 0)))
    exact ⟨0, 0, At.own (eqS hw) (by exact ⟨rfl, rfl, trivial⟩), rfl, hw.drop.drop.drop⟩
  · rw [if_pos h]
    have hw : Sat R (pts b2 (.cells [.int .i64 0, .int .i64 0].toArray 46 (0, 0)) :: RdAt r b.2 :: pts bh (.cells [.int .i64 a.1, .int .i64 b.1].toArray 46 (0, 0)) :: Hs) w := hw.arr
    refine ⟨a.1, b.1, At.own (eqS hw) (by exact ⟨rfl, rfl, trivial⟩), ?_⟩
    refine store_rule hw (by kernel_rfl) rfl (by simp [Value.cells]) fun w hw => ?_
    have hw := hw.re (pts b2 (.cells [.int .i64 a.1, .int .i64 b.1].toArray 46 (0, 0)))
    exact ⟨a.1, b.1, At.own (eqS hw) (by exact ⟨rfl, rfl, trivial⟩), rfl, hw.drop.drop.drop⟩

end Go.Proofs.Ytgfneeoponiibaa
/- Package keep: hard states on a disk. Condition: bounds on how many files there are; the files' bytes are bytes. -/
namespace Go.Proofs.Ytgfneeoponiibaa
open Go Go.VC

variable {R : Cx} {Hs Rest : List HP} {w : World}

/-! ### The files' bytes are bytes -/
def Byt (l : List Int) : Prop := ∀ x ∈ l, 0 ≤ x ∧ x < 256
def ByOk (fs : Fs) : Prop := ∀ e ∈ fs, Byt e.2.b
theorem Byt.app {a b : List Int} (ha : Byt a) (hb : Byt b) : Byt (a ++ b) := fun x hx => (List.mem_append.1 hx).elim (ha x) (hb x)
theorem updM_mem {k : ByteArray} {g : Fl → Fl} : ∀ {l : Fs} {e}, e ∈ updM k g l → ∃ e0 ∈ l, e = e0 ∨ e = (e0.1, g e0.2)
  | [], _, h => by cases h
  | a :: l, e, h => by
    unfold updM at h
    split at h
    · rcases List.mem_cons.1 h with rfl | h
      · exact ⟨a, List.mem_cons_self .., .inr rfl⟩
      · exact ⟨e, List.mem_cons_of_mem _ h, .inl rfl⟩
    · rcases List.mem_cons.1 h with rfl | h
      · exact ⟨_, List.mem_cons_self .., .inl rfl⟩
      · obtain ⟨e0, h0, h1⟩ := updM_mem h
        exact ⟨e0, List.mem_cons_of_mem _ h0, h1⟩
theorem by_upd {k : ByteArray} {g : Fl → Fl} {fs : Fs} (h : ByOk fs) (hg : ∀ f, Byt f.b → Byt (g f).b) : ByOk (updM k g fs) := fun e he => by
  obtain ⟨e0, h0, rfl | rfl⟩ := updM_mem he
  · exact h _ h0
  · exact hg _ (h _ h0)
theorem by_ensure {fs : Fs} (h : ByOk fs) (k : ByteArray) : ByOk (ensure k fs) := by
  unfold ensure
  split
  · exact h
  · intro e he
    rcases List.mem_append.1 he with he | he
    · exact h e he
    · simp at he; subst he; exact fun _ h => by cases h
theorem by_append {st : DS} (h : ByOk st.fs) (k : ByteArray) {xs : List Int} (hx : Byt xs) : ByOk (appendD st k xs).1.fs := by
  have hc := (chg_fs st (nameOk k)).1
  unfold appendD doing
  split
  · show ByOk (appendG (chg st (nameOk k)).1 k xs).1.fs
    unfold appendG
    split
    · rw [hc]; exact h
    · simp only [putB]
      rw [hc]
      exact by_upd (by_ensure h k) fun f hf => hf.app hx
  · rw [hc]; exact h
theorem by_sync {st : DS} (h : ByOk st.fs) (k : ByteArray) : ByOk (syncD st k).1.fs := by
  have hc := (chg_fs st (nameOk k)).1
  unfold syncD doing
  split
  · unfold syncG
    split
    · simp only; rw [hc]; exact by_upd h fun f hf => hf
    · rw [hc]; exact h
  · rw [hc]; exact h
theorem by_del {fs : Fs} (h : ByOk fs) (k : ByteArray) : ByOk (delM k fs) := fun e he => h e ((delM_sub k fs).subset he)
theorem by_unlink {st : DS} (h : ByOk st.fs) (k : ByteArray) : ByOk (unlinkD st k).1.fs := by
  have hc := (chg_fs st (nameOk k)).1
  unfold unlinkD doing
  split
  · unfold unlinkG
    split
    · simp only; rw [hc]; exact by_del h k
    · rw [hc]; exact h
  · rw [hc]; exact h
theorem getM_mem {β : Type} {k : ByteArray} : ∀ {l : List (ByteArray × β)} {v : β}, getM k l = some v → ∃ k', (k', v) ∈ l := fun {l v} h => by
  obtain ⟨a, b, rfl, _⟩ := getM_split h
  exact ⟨k, by simp⟩
theorem by_rename {st : DS} (h : ByOk st.fs) (k to : ByteArray) : ByOk (renameD st k to).1.fs := by
  have hc := (chg_fs st (nameOk k && nameOk to)).1
  unfold renameD doing
  split
  · unfold renameG
    split
    · rename_i f hf
      split
      · rw [hc]; exact h
      · simp only
        intro e he
        rcases List.mem_append.1 he with he | he
        · rw [hc] at he; exact by_del (by_del h to) k e he
        · simp at he; subst he
          obtain ⟨k', hm⟩ := getM_mem hf
          rw [hc] at hm
          exact (h (k', f) hm : Byt f.b)
    · rw [hc]; exact h
  · rw [hc]; exact h
theorem by_go {st : DS} (h : ByOk st.fs) (name : ByteArray) {b : List Int} (hb : Byt b) : ByOk (writeGo st name b).1.fs := by
  have h1 := by_append h (nextOf name) (recB_bd hb)
  unfold writeGo
  split
  · exact h1
  · split
    · exact by_sync h1 _
    · exact by_rename (by_sync h1 _) _ _
theorem by_write {st : DS} (h : ByOk st.fs) (name : ByteArray) {b : List Int} (hb : Byt b) : ByOk (writeD st name b).1.fs := by
  unfold writeD
  split
  · exact h
  · split
    · split
      · exact by_unlink h _
      · exact by_go (by_unlink h _) name hb
    · exact by_go h name hb
theorem by_read {st : DS} (h : ByOk st.fs) (k : ByteArray) : Byt (readD st k).1 := by
  unfold readD
  split
  · exact fun _ h => by cases h
  · split
    · exact fun _ h => by cases h
    · split
      · exact fun _ h => by cases h
      · rename_i f hf
        obtain ⟨k', hm⟩ := getM_mem hf
        exact h _ hm

theorem go_inv {st : DS} (i : Inv st) (name : ByteArray) (b : List Int) : Inv (writeGo st name b).1 := by
  unfold writeGo
  split
  · exact appendD_inv i _ _
  · split
    · exact sync_inv (appendD_inv i _ _) _
    · exact rename_inv (sync_inv (appendD_inv i _ _) _) _ _
theorem write_inv {st : DS} (i : Inv st) (name : ByteArray) (b : List Int) : Inv (writeD st name b).1 := by
  unfold writeD
  split
  · exact i
  · split
    · split
      · exact unlink_inv i _
      · exact go_inv (unlink_inv i _) _ _
    · exact go_inv i _ _

/-! ### The one record of a file -/
def recOf (bs : List Int) : Option (List Int) := match scan bs with | [x] => if scanLen (scan bs) = bs.length then some x else none | _ => none
/-- What a file has: its one record's bytes; the error. -/
def oneD (st : DS) (name : ByteArray) : Option (List Int) × Int :=
  if (readD st name).2 = 0 then (match recOf (readD st name).1 with | some x => (some x, 0) | none => (none, 6))
  else if (readD st name).2 = 2 then (none, 0) else (none, (readD st name).2)

theorem scan_mem : ∀ (n : Nat) (bs : List Int), bs.length ≤ n → ∀ x ∈ scan bs, x.length ≤ 65536 ∧ ∀ y ∈ x, y ∈ bs := fun n => by
  induction n with
  | zero =>
    intro bs h x hx
    cases hf : first bs with
    | none => rw [scan_none hf] at hx; cases hx
    | some b => have := (first_len hf).1; omega
  | succ n ih =>
    intro bs h x hx
    cases hf : first bs with
    | none => rw [scan_none hf] at hx; cases hx
    | some b =>
      obtain ⟨h1, h2, h3, _⟩ := first_len hf
      rw [scan_some hf] at hx
      rcases List.mem_cons.1 hx with rfl | hx
      · exact ⟨h2, fun y hy => by rw [h3] at hy; exact List.mem_of_mem_drop (List.mem_of_mem_take hy)⟩
      · obtain ⟨h4, h5⟩ := ih _ (by simp; omega) x hx
        exact ⟨h4, fun y hy => List.mem_of_mem_drop (h5 y hy)⟩
theorem recOf_ok {bs x : List Int} (hb : Byt bs) (h : recOf bs = some x) : x.length ≤ 65536 ∧ Byt x ∧ scan bs = [x] ∧ scanLen (scan bs) = bs.length := by
  unfold recOf at h
  split at h
  · rename_i y hy
    split at h
    · rename_i hl
      cases h
      obtain ⟨h1, h2⟩ := scan_mem _ bs (Nat.le_refl _) x (by rw [hy]; simp)
      exact ⟨h1, fun z hz => hb z (h2 z hz), hy, hl⟩
    · cases h
  · cases h
theorem recOf_rec {b : List Int} (hl : b.length ≤ 65536) (hb : Byt b) : recOf (recB b) = some b := by
  unfold recOf
  rw [scan_rec hl hb]
  have : scanLen [b] = (recB b).length := by rw [recB_len]; rfl
  simp [this]

/-! ### Hard states -/
def hardN : ByteArray := ByteArray.mk #[104, 97, 114, 100]
def saveHardD (st : DS) (t v : Int) [Decidable (hardOk t v)] : DS × Int := if hardOk t v then writeD st hardN (hardB t v) else (st, 1)
def loadHardD (st : DS) : (Int × Int) × Int := match oneD st hardN with | (some x, _) => decHard x | (none, e) => ((0, 0), e)

instance hardDec (t v : Int) : Decidable (hardOk t v) := inferInstanceAs (Decidable ((0 ≤ t ∧ t ≤ 1099511627776) ∧ (0 ≤ v ∧ v ≤ 15)))

theorem saveHard_spec {d : Nat} {st : DS} {t v : Int} (i : Inv st) (hc : st.fs.length ≤ 1000000) (hw : Sat R (DiskAt d st :: Hs) w) :
    Gets Try.prog 13 #[.pointer (some ⟨d, 0, none⟩), .agg #[.int .i64 t, .int .i64 v]] w fun r w' => r = .int .i64 (saveHardD st t v).2 ∧ Sat R (DiskAt d (saveHardD st t v).1 :: Hs) w' := by
  apply call13
  refine new_rule hw fun bh w hw => ?_
  have hw : Sat R (pts bh (.cells [.int .i64 t, .int .i64 v].toArray 46 (0, 0)) :: DiskAt d st :: Hs) w := hw
  refine ⟨t, v, At.own (eqS hw) (by exact ⟨rfl, rfl, trivial⟩), ?_⟩
  have key : Gets Try.prog 17 #[.pointer (some ⟨d, 0, none⟩), .string hardN, .agg #[.int .i64 t, .int .i64 v], .func (.func 18) #[] #[]] w fun r w' => r = .int .i64 (saveHardD st t v).2 ∧ Sat R (DiskAt d (saveHardD st t v).1 :: Hs) w' := by
    apply call17
    refine new_rule hw.drop fun bx w hw => ?_
    have hw : Sat R (pts bx (.cells [.int .i64 t, .int .i64 v].toArray 46 (0, 0)) :: DiskAt d st :: Hs) w := hw
    refine ⟨t, v, At.own (eqS hw) (by exact ⟨rfl, rfl, trivial⟩), CalW.mk (by kernel_rfl) ?_⟩
    refine (encHard_spec t v hw.drop).use ?_
    rintro _ w (⟨hno, rfl, hw⟩ | ⟨hok, s, rfl, hw⟩)
    · refine ⟨⟨none, 0, 0⟩, 1, rfl, fun _ => False, Br.f rfl (Br.ne (fun _ => ?_) (fun h => by cases h)), fun _ _ h => h.elim⟩
      unfold saveHardD
      rw [if_neg hno]
      exact ⟨rfl, hw⟩
    · obtain ⟨R', hr2, _, hw, back⟩ := Own.lend hw (by
        have h1 := numB_len (n := t.toNat) (by have := hok.1; omega)
        have h2 := numB_len (n := v.toNat) (by have := hok.2; omega)
        simp [hardB]; omega)
      refine ⟨s, 0, rfl, Sat R' (DiskAt d st :: Hs), Br.f rfl (Br.ne (fun h => absurd rfl h) (fun _ => hw)), ?_⟩
      intro _ w hw
      have := writeT_of (name := hardN) (b := hardB t v) (t := s) (K := fun r w' => r = .int .i64 (saveHardD st t v).2 ∧ Sat R (DiskAt d (saveHardD st t v).1 :: Hs) w') i hc (by decide) (hardB_bd hok) hr2 hw (fun w' hw' => by
        unfold saveHardD
        rw [if_pos hok]
        exact ⟨rfl, (back hw').drop⟩)
      exact this
  refine key.use ?_
  rintro _ w ⟨rfl, hw⟩
  exact ⟨_, rfl, rfl, hw⟩

end Go.Proofs.Ytgfneeoponiibaa
/- Package keep: loading a hard state; the laws' first test. Condition: bounds on how many files there are; the files' bytes are bytes. -/
namespace Go.Proofs.Ytgfneeoponiibaa
open Go Go.VC

variable {R : Cx} {Hs Rest : List HP} {w : World}

theorem BytesL.reads {l : Sl} {xss : List (List Int)} (h : Sat R (BytesL l xss :: Hs) w) (hb : xss.length ≤ 9223372036854775807) : l.len = xss.length := by
  obtain ⟨ps, hps, h⟩ := Sat.bytesL.1 h
  have := Own.len h
  rw [this, List.length_map, ← hps, List.length_map]

/-- The one row of a list of rows. -/
theorem BytesL.one {l : Sl} {x : List Int} (h : Sat R (BytesL l [x] :: Hs) w) (hx : x.length ≤ 9223372036854775807) : ∃ (s : Sl) (R' : Cx), Ro R' l [Sl.v s] ∧ Ro R' s (b8 x) ∧ Sat R' Hs w ∧ ∀ {w'}, Sat R' Hs w' → Sat R Hs w' := by
  obtain ⟨ps, hps, hq⟩ := Sat.bytesL.1 h
  clear h
  match ps, hps, hq with
  | [(s, y)], hps, hq =>
    obtain rfl : y = x := by simpa using hps
    have h0 : Sat R (Own l 22 [Sl.v s] :: Star [Own s 5 (b8 y)] :: Hs) w := hq
    obtain ⟨R1, h1, _, h2, back1⟩ := Own.lend h0 (by simp)
    have h3 : Sat R1 (Own s 5 (b8 y) :: Hs) w := Sat.star.1 h2
    obtain ⟨R2, h4, keep, h5, back2⟩ := Own.lend h3 (by simpa using hx)
    refine ⟨s, R2, keep _ _ h1, h4, h5, fun {w'} hw' => ?_⟩
    have h6 := (back2 hw').drop
    exact (back1 (Hs' := Hs) h6).drop

abbrev hZ (b : Nat) : HP := pts b (.cells [.int .i64 0, .int .i64 0].toArray 46 (0, 0))

theorem hardRet {bt : Nat} {x y e : Int} {K : Value → World → Prop} (hw : Sat R (hZ bt :: Hs) w) (hk : ∀ w, Sat R Hs w → K (.tuple #[.agg #[.int .i64 x, .int .i64 y], .int .i64 e]) w) :
    ∃ w_3 : World, ((Instr.storeAt 46 (.pointer ((some ⟨bt, 0, none⟩))) (.agg #[.int .i64 x, .int .i64 y])).run Try.prog w = .ok () w_3) ∧
      ∃ t7 : Int, ∃ t7_1 : Int, (At (fun w' => w' = w_3) ⟨bt, 0, none⟩ [.int .i64 t7, .int .i64 t7_1]) ∧ K (.tuple #[.agg #[.int .i64 t7, .int .i64 t7_1], .int .i64 e]) w_3 := by
  refine store_rule hw (by kernel_rfl) rfl (by simp [Value.cells]) fun w hw => ?_
  have hw := hw.re (pts bt (.cells [.int .i64 x, .int .i64 y].toArray 46 (0, 0)))
  exact ⟨x, y, At.own (eqS hw) (by exact ⟨rfl, rfl, trivial⟩), hk w hw.drop⟩

theorem hardZero {bz bt : Nat} {e : Int} {K : Value → World → Prop} (hw : Sat R (hZ bz :: hZ bt :: Hs) w) (hk : ∀ w, Sat R Hs w → K (.tuple #[.agg #[.int .i64 0, .int .i64 0], .int .i64 e]) w) :
    ∃ t15 : Int, ∃ t15_1 : Int, (At (fun w' => w' = w) ⟨bz, 0, none⟩ [.int .i64 t15, .int .i64 t15_1]) ∧
    ∃ w_3 : World, ((Instr.storeAt 46 (.pointer ((some ⟨bt, 0, none⟩))) (.agg #[.int .i64 t15, .int .i64 t15_1])).run Try.prog w = .ok () w_3) ∧
      ∃ t7 : Int, ∃ t7_1 : Int, (At (fun w' => w' = w_3) ⟨bt, 0, none⟩ [.int .i64 t7, .int .i64 t7_1]) ∧ K (.tuple #[.agg #[.int .i64 t7, .int .i64 t7_1], .int .i64 e]) w_3 :=
  ⟨0, 0, At.own (eqS hw) (by exact ⟨rfl, rfl, trivial⟩), hardRet hw.drop hk⟩

theorem readD_len {st : DS} (i : Inv st) (k : ByteArray) : (readD st k).1.length ≤ 16777216 := by
  unfold readD
  split
  · simp
  · split
    · simp
    · split
      · simp
      · rename_i f hf
        have := total_le hf; have := i.full; have := i.r1
        simp only; omega

theorem readHard_spec {d : Nat} {st : DS} (i : Inv st) (hb : ByOk st.fs) (hw : Sat R (DiskAt d st :: Hs) w) :
    Gets Try.prog 19 #[.pointer (some ⟨d, 0, none⟩), .string hardN, .func (.func 20) #[] #[]] w fun r w' => r = .tuple #[.agg #[.int .i64 (loadHardD st).1.1, .int .i64 (loadHardD st).1.2], .int .i64 (loadHardD st).2] ∧ Sat R (DiskAt d st :: Hs) w' := by
  apply call19
  suffices H : ∀ K : Value → World → Prop, (∀ w', Sat R (DiskAt d st :: Hs) w' → K (.tuple #[.agg #[.int .i64 (loadHardD st).1.1, .int .i64 (loadHardD st).1.2], .int .i64 (loadHardD st).2]) w') → B19 (some ⟨d, 0, none⟩) hardN (.func (.func 20) #[] #[]) K w from H _ fun w' hw' => ⟨rfl, hw'⟩
  intro K hK
  refine new_rule hw fun bt w hw => new_rule hw fun bz w hw => ?_
  have hw : Sat R (hZ bz :: hZ bt :: DiskAt d st :: Hs) w := hw
  refine Br.f rfl ?_
  have hw2 : Sat R (DiskAt d st :: hZ bz :: hZ bt :: Hs) w := hw.arr
  refine (read_spec (k := hardN) i hw2).use ?_
  rintro _ w ⟨t, rfl, hw⟩
  have hby := by_read hb hardN
  have hbl := readD_len i hardN
  refine ⟨t, _, rfl, ?_⟩
  refine Br.mk (fun h => ?_) (fun h => Br.mk (fun h2 => ?_) (fun h2 => ?_))
  · have he : (readD st hardN).2 = 0 := by simpa using h
    obtain ⟨x, hd, _, hx, hs⟩ := Reads.lend (Own.reads hw)
    have hsub : ∀ b o, x b = some o → (R.add x).m b = some o := fun b o hb => by
      have := hd b (by rw [hb]; simp)
      simp only [Cx.add, Heap.add, this, hb]
    have hsl : t.len = (readD st hardN).1.length := by have := hs.len; simpa using this
    refine (scan_spec hby (by omega) (hs.mono hsub) hx).use ?_
    rintro _ w ⟨l, rfl, hw⟩
    have hll := scanLen_le _ (readD st hardN).1 (Nat.le_refl _)
    have hl8 := len_scanLen (scan (readD st hardN).1)
    have hlen := BytesL.reads hw (by omega)
    refine ⟨l, _, rfl, ?_⟩
    have bad : recOf (readD st hardN).1 = none → loadHardD st = ((0, 0), 6) := fun hr => by unfold loadHardD oneD; rw [if_pos he, hr]
    have hwz : Sat (R.add x) (hZ bz :: hZ bt :: DiskAt d st :: BytesL l (scan (readD st hardN).1) :: Hs) w := hw.arr
    refine Br.ne (fun h1 => ?_) (fun h1 => ?_)
    · have hr : recOf (readD st hardN).1 = none := by
        unfold recOf
        split
        · rename_i y hy; rw [hy] at hlen; rw [hlen] at h1; exact absurd rfl h1
        · rfl
      rw [bad hr] at hK
      exact hardZero hwz fun w hw => hK w ((Reads.back hd hs hw).drop.cons fun _ h => h.drop)
    · refine Br.ne (fun h2 => ?_) (fun h2 => ?_)
      · have hr : recOf (readD st hardN).1 = none := by
          unfold recOf
          split
          · rw [if_neg]; intro h3; rw [h3, hsl] at h2; exact h2 rfl
          · rfl
        rw [bad hr] at hK
        exact hardZero hwz fun w hw => hK w ((Reads.back hd hs hw).drop.cons fun _ h => h.drop)
      · obtain ⟨y, hy⟩ : ∃ y, scan (readD st hardN).1 = [y] := by
          match hsc : scan (readD st hardN).1 with
          | [y] => exact ⟨y, rfl⟩
          | [] => rw [hsc] at hlen; rw [hlen] at h1; cases h1
          | a :: b :: c => rw [hsc] at hlen; rw [hlen] at h1; simp at h1; omega
        have hrec : recOf (readD st hardN).1 = some y := by
          unfold recOf
          rw [hy]
          simp only
          rw [hy, hsl] at h2
          rw [if_pos (by omega)]
        obtain ⟨hyl, hyb, _, _⟩ := recOf_ok hby hrec
        rw [hy] at hw
        obtain ⟨s, R2, hl2, hs2, hw, back⟩ := BytesL.one hw (by omega)
        have := Ro.idxS (S := fun w' => w' = w) (ms := [s]) hl2 (eqS hw) (k := 0) (by simp) (F := fun t => t = s) rfl
        obtain ⟨h0, h1', this⟩ := this.out
        obtain ⟨a, ha, t', hat, rfl⟩ := this.out
        refine Rng.mk h0 h1' (NilP.mk ha ⟨_, hat, CalW.mk (by kernel_rfl) ?_⟩)
        refine (decHard_spec hyb hs2 (by omega) hw).use ?_
        rintro _ w ⟨rfl, hw⟩
        refine ⟨_, _, _, rfl, ?_⟩
        have hload : loadHardD st = decHard y := by unfold loadHardD oneD; rw [if_pos he, hrec]
        rw [hload] at hK
        have hw := back hw
        have hwz : Sat (R.add x) (hZ bt :: DiskAt d st :: hZ bz :: Hs) w := hw.arr
        exact hardRet hwz fun w hw => hK w ((Reads.back hd hs hw).drop.cons fun _ h => h.drop)
  · have he : (readD st hardN).2 = 2 := by simpa using h2
    have hload : loadHardD st = ((0, 0), 0) := by unfold loadHardD oneD; rw [if_neg (by omega), if_pos he]
    have hwz : Sat R (hZ bz :: hZ bt :: DiskAt d st :: Hs) w := hw.drop.arr
    rw [hload] at hK
    exact hardZero hwz fun w hw => hK w hw
  · have h : ¬ (readD st hardN).2 = 0 := by simpa using h
    have h2 : ¬ (readD st hardN).2 = 2 := by simpa using h2
    have hload : loadHardD st = ((0, 0), (readD st hardN).2) := by unfold loadHardD oneD; rw [if_neg h, if_neg h2]
    have hwz : Sat R (hZ bz :: hZ bt :: DiskAt d st :: Hs) w := hw.drop.arr
    rw [hload] at hK
    exact hardZero hwz fun w hw => hK w hw

theorem loadHard_spec {d : Nat} {st : DS} (i : Inv st) (hb : ByOk st.fs) (hw : Sat R (DiskAt d st :: Hs) w) :
    Gets Try.prog 14 #[.pointer (some ⟨d, 0, none⟩)] w fun r w' => r = .tuple #[.agg #[.int .i64 (loadHardD st).1.1, .int .i64 (loadHardD st).1.2], .int .i64 (loadHardD st).2] ∧ Sat R (DiskAt d st :: Hs) w' := by
  apply call14
  suffices H : ∀ K : Value → World → Prop, (∀ w', Sat R (DiskAt d st :: Hs) w' → K (.tuple #[.agg #[.int .i64 (loadHardD st).1.1, .int .i64 (loadHardD st).1.2], .int .i64 (loadHardD st).2]) w') → B14 (some ⟨d, 0, none⟩) K w from H _ fun w' hw' => ⟨rfl, hw'⟩
  intro K hK
  refine new_rule hw fun b2 w hw => ?_
  have hw : Sat R (hZ b2 :: DiskAt d st :: Hs) w := hw
  refine (readHard_spec i hb hw.swap).use ?_
  rintro _ w ⟨rfl, hw⟩
  refine ⟨_, _, _, rfl, ?_⟩
  exact hardRet hw.swap fun w hw => hK w hw

end Go.Proofs.Ytgfneeoponiibaa
/- The laws' first test: a hard state, there and back. No condition. -/
namespace Go.Proofs.Ytgfneeoponiibaa
open Go Go.VC

variable {R : Cx} {Hs Rest : List HP} {w : World}

theorem rdNum_num {most : Int} {n : Nat} (h : n < 18446744073709551616) (hm : (n : Int) ≤ most) (rest : List Int) : rdNum most ⟨numB n ++ rest, false⟩ = ((n : Int), ⟨rest, false⟩) := by
  unfold rdNum
  rw [if_neg (by simp), parse_num h rest]
  simp only
  rw [if_pos (by simpa using hm), List.drop_left' rfl]

theorem dec_enc {t v : Int} (h : hardOk t v) : decHard (hardB t v) = ((t, v), 0) := by
  obtain ⟨⟨h1, h2⟩, h3, h4⟩ := h
  obtain ⟨tn, rfl⟩ := Int.eq_ofNat_of_zero_le h1
  obtain ⟨vn, rfl⟩ := Int.eq_ofNat_of_zero_le h3
  have e1 := rdNum_num (most := 1099511627776) (n := tn) (by omega) h2 (numB vn)
  have e2 := rdNum_num (most := 15) (n := vn) (by omega) h4 []
  rw [List.append_nil] at e2
  unfold decHard hardB
  rw [Int.toNat_natCast, Int.toNat_natCast, e1]
  simp only [e2]
  rw [if_pos (by rfl)]

theorem chg_calm {st : DS} (ha : st.arm = -1) (hf : st.fail = -1) (ho : st.off = false) : chg st true = (st, 0) := by
  obtain ⟨room, fs, fail, arm, off⟩ := st
  simp only at ha hf ho
  subst ha hf ho
  simp [chg, metN]

theorem hardN_ok : nameOk hardN = true := by decide +kernel
theorem hardX_ok : nameOk (nextOf hardN) = true := by decide +kernel
theorem hard_ne : nextOf hardN ≠ hardN := by decide +kernel

/-- Written on a new disk. -/
theorem write_new {room : Int} {name : ByteArray} {b : List Int} (hn : nameOk name = true) (hx : nameOk (nextOf name) = true) (hne : nextOf name ≠ name) (hb : b.length ≤ 65536) (hr : ((recB b).length : Int) ≤ room) :
    writeD ⟨room, [], -1, -1, false⟩ name b = (⟨room, [(name, ⟨recB b, (recB b).length⟩)], -1, -1, false⟩, 0) := by
  have h0 : nextOf name ∉ namesOf [] := by simp [namesOf]
  have h1 : appendD ⟨room, [], -1, -1, false⟩ (nextOf name) (recB b) = (⟨room, [(nextOf name, ⟨recB b, 0⟩)], -1, -1, false⟩, 0) := by
    unfold appendD doing
    rw [hx, chg_calm rfl rfl rfl]
    simp only [if_true]
    unfold appendG
    rw [if_neg (by rw [total_nil]; dsimp only; omega)]
    simp [putB, ensure, getM, updM, ba_rfl]
  have h2 : syncD ⟨room, [(nextOf name, ⟨recB b, 0⟩)], -1, -1, false⟩ (nextOf name) = (⟨room, [(nextOf name, ⟨recB b, (recB b).length⟩)], -1, -1, false⟩, 0) := by
    unfold syncD doing
    rw [hx, chg_calm rfl rfl rfl]
    simp [syncG, getM, updM, ba_rfl]
  have h3 : renameD ⟨room, [(nextOf name, ⟨recB b, (recB b).length⟩)], -1, -1, false⟩ (nextOf name) name = (⟨room, [(name, ⟨recB b, (recB b).length⟩)], -1, -1, false⟩, 0) := by
    unfold renameD doing
    rw [hx, hn]
    rw [show (true && true) = true from rfl, chg_calm rfl rfl rfl]
    simp [renameG, getM, delM, ba_rfl, ba_ne hne.symm, hne]
  unfold writeD
  rw [if_neg (by omega), if_neg h0]
  unfold writeGo
  rw [h1]
  simp only [ne_eq, not_true_eq_false, if_false, h2, h3]

theorem load_new {room : Int} {t v : Int} (h : hardOk t v) : loadHardD ⟨room, [(hardN, ⟨recB (hardB t v), (recB (hardB t v)).length⟩)], -1, -1, false⟩ = ((t, v), 0) := by
  have hl1 := numB_len (n := t.toNat) (by have := h.1; omega)
  have hl2 := numB_len (n := v.toNat) (by have := h.2; omega)
  have hr : readD ⟨room, [(hardN, ⟨recB (hardB t v), (recB (hardB t v)).length⟩)], -1, -1, false⟩ hardN = (recB (hardB t v), 0) := by
    unfold readD
    rw [hardN_ok]
    simp [getM, ba_rfl]
  unfold loadHardD oneD
  rw [hr]
  simp only [if_true]
  rw [recOf_rec (by simp [hardB]; omega) (hardB_bd h)]
  exact dec_enc h

theorem awake_spec (hw : Sat R Hs w) : Gets Try.prog 5 #[] w fun v w' => v = .bool true ∧ Sat R Hs w' := by
  have hok : hardOk 3 1 := ⟨⟨by omega, by omega⟩, by omega, by omega⟩
  have hl : (recB (hardB 3 1)).length ≤ 26 := by
    have hl1 := numB_len (n := 3) (by omega)
    have hl2 := numB_len (n := 1) (by omega)
    rw [recB_len, hardB, List.length_append]
    show 8 + ((numB 3).length + (numB 1).length) ≤ 26
    omega
  have hs : saveHardD ⟨1000, [], -1, -1, false⟩ 3 1 = (⟨1000, [(hardN, ⟨recB (hardB 3 1), (recB (hardB 3 1)).length⟩)], -1, -1, false⟩, 0) := by
    unfold saveHardD
    rw [if_pos hok]
    exact write_new hardN_ok hardX_ok hard_ne (by rw [recB_len] at hl; omega) (by omega)
  have hl2 := load_new (room := 1000) hok
  have i0 := inv_new (room := 1000) (by omega) (by omega)
  have i1 : Inv (saveHardD ⟨1000, [], -1, -1, false⟩ 3 1).1 := by unfold saveHardD; rw [if_pos hok]; exact write_inv i0 _ _
  have b1 : ByOk (saveHardD ⟨1000, [], -1, -1, false⟩ 3 1).1.fs := by unfold saveHardD; rw [if_pos hok]; exact by_write (fun _ h => by cases h) _ (hardB_bd hok)
  rw [hs] at i1 b1
  apply call5
  refine (new_ok (room := 1000) (by omega) (by omega) hw).use ?_
  rintro _ w ⟨d, rfl, hw⟩
  refine ⟨_, _, rfl, Sat R (DiskAt d ⟨1000, [], -1, -1, false⟩ :: Hs), Br.ne (fun h => absurd rfl h) (fun _ => Br.f rfl hw), ?_⟩
  clear hw
  intro _ w hw
  refine (saveHard_spec (t := 3) (v := 1) i0 (by simp) hw).use ?_
  rintro _ w ⟨rfl, hw⟩
  rw [hs] at hw ⊢
  refine ⟨_, rfl, (loadHard_spec i1 b1 hw).use ?_⟩
  rintro _ w ⟨rfl, hw⟩
  rw [hl2]
  refine ⟨3, 1, 0, rfl, ?_⟩
  refine new_rule hw fun bh w hw => ?_
  have hw : Sat R (hZ bh :: DiskAt d ⟨1000, [(hardN, ⟨recB (hardB 3 1), (recB (hardB 3 1)).length⟩)], -1, -1, false⟩ :: Hs) w := hw
  refine store_rule hw (by kernel_rfl) rfl (by simp [Value.cells]) fun w hw => ?_
  have hw := hw.re (pts bh (.cells [.int .i64 3, .int .i64 1].toArray 46 (0, 0)))
  refine Br.t rfl (Br.t rfl ⟨3, 1, At.own (eqS hw) (by exact ⟨rfl, rfl, trivial⟩), true, fun w' _ => by kernel_rfl, rfl, hw.drop.drop⟩)

end Go.Proofs.Ytgfneeoponiibaa
/- Package keep: parts, and parts put together. Condition: none. -/
namespace Go.Proofs.Ytgfneeoponiibaa
open Go Go.VC

variable {R : Cx} {Hs Rest : List HP} {w : World}

/-- What Part tells. -/
def partOk (n : Nat) (at_ size : Int) : Prop := n ≤ 65536 ∧ (0 ≤ at_ ∧ at_ ≤ n) ∧ 1 ≤ size
instance partDec (n : Nat) (at_ size : Int) : Decidable (partOk n at_ size) := inferInstanceAs (Decidable (n ≤ 65536 ∧ (0 ≤ at_ ∧ at_ ≤ n) ∧ 1 ≤ size))
def partB (bs : List Int) (at_ size : Int) : List Int := (bs.drop at_.toNat).take size.toNat

theorem part_spec {s : Sl} {bs : List Int} {a z : Int} (hz : z < 9223372036854775808) (hs : SlR R.m s (b8 bs)) (hw : Sat R Hs w) :
    Gets Try.prog 6 #[.slice s.a s.len s.cap, .int .i64 a, .int .i64 z] w fun v w' =>
      (¬ partOk bs.length a z ∧ v = .tuple #[.slice none 0 0, .int .i64 1] ∧ Sat R Hs w') ∨
      (partOk bs.length a z ∧ ∃ t : Sl, v = .tuple #[.slice t.a t.len t.cap, .int .i64 0] ∧ Sat R (Own t 5 (b8 (partB bs a z)) :: Hs) w') := by
  have hlen : s.len = bs.length := by have := hs.len; simpa using this
  have hcap := hs.cap
  apply call6
  refine ⟨fun w => partOk bs.length a z ∧ Sat R Hs w, ?_, ?_⟩
  · refine Br.d (fun h => ?_) (fun h => ?_)
    · exact .inl ⟨fun hk => by have := hk.1; omega, rfl, hw⟩
    · refine (within_spec a _ hw).use ?_
      rintro _ w ⟨rfl, hw⟩
      refine ⟨_, rfl, Br.nb (fun h => ?_) (fun h => ?_)⟩
      · have h := of_decide_eq_false h
        exact .inl ⟨fun hk => h (by have := hk.2.1; omega), rfl, hw⟩
      · have h2 := of_decide_eq_true h
        refine Br.d (fun h => ?_) (fun h => ?_)
        · exact .inl ⟨fun hk => by have := hk.2.2; omega, rfl, hw⟩
        · exact ⟨⟨by omega, ⟨by omega, by omega⟩, by omega⟩, hw⟩
  clear hw
  rintro _ w ⟨hok, hw⟩
  obtain ⟨h1, ⟨h2, h3⟩, h4⟩ := hok
  obtain ⟨an, rfl⟩ := Int.eq_ofNat_of_zero_le h2
  obtain ⟨zn, rfl⟩ := Int.eq_ofNat_of_zero_le (show 0 ≤ z by omega)
  have e0 : IntKind.i64.wrap ((s.len : Int) - (an : Int)) = ((bs.length - an : Nat) : Int) := by rw [wrap64 (by omega) (by omega)]; omega
  have e1 : (if ((bs.length - an : Nat) : Int) < (zn : Int) then ((bs.length - an : Nat) : Int) else (zn : Int)) = ((min zn (bs.length - an) : Nat) : Int) := by split <;> omega
  have e2 : IntKind.i64.wrap ((an : Int) + ((min zn (bs.length - an) : Nat) : Int)) = ((an + min zn (bs.length - an) : Nat) : Int) := by rw [wrap64 (by omega) (by omega)]; omega
  rw [e0, e1, e2]
  refine ⟨by omega, by omega, by omega, by omega, ?_⟩
  rw [Int.toNat_natCast, Int.toNat_natCast]
  have hd := hs.b8drop (k := an) (by omega)
  have ht := hd.b8take (k := min zn (bs.length - an)) (by simp; omega)
  have e3 : an + min zn (bs.length - an) - an = min zn (bs.length - an) := by omega
  rw [e3]
  have e4 : (bs.drop an).take (min zn (bs.length - an)) = partB bs an zn := by
    unfold partB
    rw [Int.toNat_natCast, Int.toNat_natCast, List.take_eq_take_iff, List.length_drop]
    omega
  rw [e4] at ht
  have hpl : (partB bs an zn).length ≤ 65536 := by unfold partB; simp; omega
  refine (clone_spec (s := ⟨(sdrop s an).a, min zn (bs.length - an), (sdrop s an).cap⟩) (ht.ro (by simp; omega)) (by omega) hw).use ?_
  rintro _ w ⟨t, rfl, hw⟩
  exact ⟨t, rfl, .inr ⟨⟨h1, ⟨h2, h3⟩, h4⟩, t, rfl, hw⟩⟩

structure Wh where
  begun : Bool
  total : Int
  bytes : List Int
abbrev whCells (x : Wh) (s : Sl) : Obj := .cells [.bool x.begun, .int .i64 x.total, .slice s.a s.len s.cap].toArray 28 (0, 0)
def WhAt (p : Nat) (x : Wh) : HP := exs fun s : Sl => Star [pts p (whCells x s), Own s 5 (b8 x.bytes)]
theorem Sat.wh {p : Nat} {x : Wh} : Sat R (WhAt p x :: Hs) w ↔ ∃ s : Sl, Sat R (pts p (whCells x s) :: Own s 5 (b8 x.bytes) :: Hs) w := by
  unfold WhAt
  rw [Sat.exs]
  exact ⟨fun ⟨s, h⟩ => ⟨s, Sat.star.1 h⟩, fun ⟨s, h⟩ => ⟨s, Sat.star.2 h⟩⟩

def putOk (a t : Int) (n : Nat) : Prop := (0 ≤ t ∧ t ≤ 65536) ∧ (0 ≤ a ∧ a ≤ t) ∧ (n : Int) ≤ t - a
instance putDec (a t : Int) (n : Nat) : Decidable (putOk a t n) := inferInstanceAs (Decidable ((0 ≤ t ∧ t ≤ 65536) ∧ (0 ≤ a ∧ a ≤ t) ∧ (n : Int) ≤ t - a))
def putW (x : Wh) (a t : Int) (b : List Int) : Wh × Int :=
  if ¬ putOk a t b.length then (x, 1) else if a = 0 then (⟨true, t, b⟩, 0)
  else if x.begun = true ∧ a = x.bytes.length ∧ t = x.total then (⟨x.begun, x.total, x.bytes ++ b⟩, 0) else (x, 7)

theorem put_spec {p : Nat} {x : Wh} {a t : Int} {s : Sl} {b : List Int} (hs : Ro R s (b8 b)) (hw : Sat R (WhAt p x :: Hs) w) :
    Gets Try.prog 8 #[.pointer (some ⟨p, 0, none⟩), .int .i64 a, .int .i64 t, .slice s.a s.len s.cap] w fun v w' => v = .int .i64 (putW x a t b).2 ∧ Sat R (WhAt p (putW x a t b).1 :: Hs) w' := by
  have hlen : s.len = b.length := by have := hs.len; simpa using this
  apply call8
  refine ⟨fun bad w => bad = decide (¬ putOk a t b.length) ∧ Sat R (WhAt p x :: Hs) w, ?_, ?_⟩
  · refine (within_spec t _ hw).use ?_
    rintro _ w ⟨rfl, hw⟩
    refine ⟨_, rfl, Br.nb (fun h => ?_) (fun h => ?_)⟩
    · have h := of_decide_eq_false h
      exact ⟨(decide_eq_true (p := ¬ putOk a t b.length) (fun hk => h hk.1)).symm, hw⟩
    · have h1 := of_decide_eq_true h
      refine (within_spec a _ hw).use ?_
      rintro _ w ⟨rfl, hw⟩
      refine ⟨_, rfl, Br.nb (fun h => ?_) (fun h => ?_)⟩
      · have h := of_decide_eq_false h
        exact ⟨(decide_eq_true (p := ¬ putOk a t b.length) (fun hk => h hk.2.1)).symm, hw⟩
      · have h2 := of_decide_eq_true h
        refine ⟨?_, hw⟩
        rw [wrap64 (by omega) (by omega), decide_eq_decide, hlen]
        constructor
        · intro h hk; have := hk.2.2; omega
        · intro h; exact Int.not_le.1 fun h3 => h ⟨h1, h2, h3⟩
  clear hw
  rintro _ _ w ⟨rfl, hw⟩
  refine Br.d (fun h => ?_) (fun h => ?_)
  · have e : putW x a t b = (x, 1) := if_pos h
    rw [e]; exact ⟨rfl, hw⟩
  have hok : putOk a t b.length := Decidable.not_not.1 h
  obtain ⟨h1, h2, h3⟩ := hok
  have e0 : putW x a t b = if a = 0 then (⟨true, t, b⟩, 0) else if x.begun = true ∧ a = x.bytes.length ∧ t = x.total then (⟨x.begun, x.total, x.bytes ++ b⟩, 0) else (x, 7) := if_neg h
  obtain ⟨s0, hw⟩ := Sat.wh.1 hw
  refine Br.e (fun h => ?_) (fun h => ?_)
  · rw [if_pos h] at e0
    rw [e0]
    refine NilP.mk rfl ?_
    refine store_rule hw (by kernel_rfl) rfl (by simp [Value.cells]) fun w hw => ?_
    have hw := hw.re (pts p (whCells ⟨true, t, []⟩ ⟨none, 0, 0⟩))
    refine NilP.mk rfl ?_
    refine ⟨⟨none, 0, 0⟩, At.own (eqS hw) (by exact ⟨rfl, trivial⟩), ?_⟩
    have hw : Sat R (Own ⟨none, 0, 0⟩ 5 [] :: pts p (whCells ⟨true, t, []⟩ ⟨none, 0, 0⟩) :: Hs) w := Own.nil (hw.cons fun _ h => h.drop)
    have hsrc : Src Try.prog 1 22 (.slice s.a s.len s.cap) b.length (b8 b) w := by
      have := srcRo Try.underlying22 hw hs (one_b8 _)
      simpa using this
    refine append_rule elB8 (s := ⟨none, 0, 0⟩) hw hsrc rfl (by simp; omega) (by simp; omega) fun s2 w hw => ?_
    refine NilP.mk rfl ?_
    have hw := hw.swap
    refine store_rule hw (by kernel_rfl) rfl (by simp [Value.cells]) fun w hw => ?_
    have hw := hw.re (pts p (whCells ⟨true, t, b⟩ s2))
    exact ⟨rfl, Sat.wh.2 ⟨s2, by simpa using hw⟩⟩
  · rw [if_neg h] at e0
    have hno : ¬ (x.begun = true ∧ a = x.bytes.length ∧ t = x.total) → ∀ {w}, Sat R (pts p (whCells x s0) :: Own s0 5 (b8 x.bytes) :: Hs) w → Value.int .i64 7 = .int .i64 (putW x a t b).2 ∧ Sat R (WhAt p (putW x a t b).1 :: Hs) w := fun hn {w} hw => by
      rw [e0, if_neg hn]; exact ⟨rfl, Sat.wh.2 ⟨s0, hw⟩⟩
    have hl0 : s0.len = x.bytes.length := by have := Own.len hw.swap; simpa using this
    refine NilP.mk rfl ?_
    refine ⟨x.begun, At.own (eqS hw) (by exact ⟨rfl, trivial⟩), Br.nb (fun hb => hno (fun hk => by rw [hk.1] at hb; cases hb) hw) (fun hb => ?_)⟩
    refine NilP.mk rfl ?_
    refine ⟨s0, At.own (eqS hw) (by exact ⟨rfl, trivial⟩), ?_⟩
    rw [hl0]
    refine Br.ne (fun hb2 => hno (fun hk => hb2 hk.2.1) hw) (fun hb2 => ?_)
    refine NilP.mk rfl ?_
    refine ⟨x.total, At.own (eqS hw) (by exact ⟨rfl, trivial⟩), Br.ne (fun hb3 => hno (fun hk => hb3 hk.2.2) hw) (fun hb3 => ?_)⟩
    rw [e0, if_pos ⟨hb, hb2, hb3⟩]
    refine NilP.mk rfl ?_
    refine ⟨s0, At.own (eqS hw) (by exact ⟨rfl, trivial⟩), ?_⟩
    have hw := hw.swap
    have hsrc : Src Try.prog 1 22 (.slice s.a s.len s.cap) b.length (b8 b) w := by
      have := srcRo Try.underlying22 hw hs (one_b8 _)
      simpa using this
    refine append_rule elB8 (s := s0) hw hsrc (one_b8 _) (by rw [List.length_map]; omega) (by rw [List.length_map]; omega) fun s2 w hw => ?_
    refine NilP.mk rfl ?_
    have hw := hw.swap
    refine store_rule hw (by kernel_rfl) rfl (by simp [Value.cells]) fun w hw => ?_
    have hw := hw.re (pts p (whCells ⟨x.begun, x.total, x.bytes ++ b⟩ s2))
    exact ⟨rfl, Sat.wh.2 ⟨s2, by simpa [b8] using hw⟩⟩

def doneW (x : Wh) : Option (List Int) := if x.begun = true ∧ (x.bytes.length : Int) = x.total then some x.bytes else none

theorem done_spec {p : Nat} {x : Wh} (hl : x.bytes.length ≤ 65536) (hw : Sat R (WhAt p x :: Hs) w) :
    Gets Try.prog 10 #[.pointer (some ⟨p, 0, none⟩)] w fun v w' =>
      (doneW x = none ∧ v = .tuple #[.slice none 0 0, .bool false] ∧ Sat R (WhAt p x :: Hs) w') ∨
      (∃ b, doneW x = some b ∧ b = x.bytes ∧ ∃ t : Sl, v = .tuple #[.slice t.a t.len t.cap, .bool true] ∧ Sat R (Own t 5 (b8 b) :: WhAt p x :: Hs) w') := by
  apply call10
  obtain ⟨s0, hw⟩ := Sat.wh.1 hw
  refine drw_rule hw fun w hw => ?_
  have hl0 : s0.len = x.bytes.length := by have := Own.len hw.swap; simpa using this
  refine NilP.mk rfl ?_
  refine ⟨x.begun, At.own selfS (by exact ⟨rfl, trivial⟩), Br.nb (fun hb => ?_) (fun hb => ?_)⟩
  · exact .inl ⟨if_neg (fun hk => by rw [hk.1] at hb; cases hb), rfl, Sat.wh.2 ⟨s0, hw⟩⟩
  refine NilP.mk rfl ?_
  refine ⟨s0, At.own selfS (by exact ⟨rfl, trivial⟩), NilP.mk rfl ?_⟩
  refine ⟨x.total, At.own selfS (by exact ⟨rfl, trivial⟩), ?_⟩
  rw [hl0]
  refine Br.ne (fun hb2 => ?_) (fun hb2 => ?_)
  · exact .inl ⟨if_neg (fun hk => hb2 hk.2), rfl, Sat.wh.2 ⟨s0, hw⟩⟩
  refine NilP.mk rfl ?_
  refine ⟨s0, At.own (eqS hw) (by exact ⟨rfl, trivial⟩), ?_⟩
  obtain ⟨R', hr, _, hw, back⟩ := Own.lend hw.swap (by simp; omega)
  refine (clone_spec hr (by omega) hw).use ?_
  rintro _ w ⟨t, rfl, hw⟩
  have hw := back hw
  refine ⟨t, rfl, .inr ⟨x.bytes, if_pos ⟨hb, hb2⟩, rfl, t, rfl, ?_⟩⟩
  have hw : Sat R (Own t 5 (b8 x.bytes) :: pts p (whCells x s0) :: Own s0 5 (b8 x.bytes) :: Hs) w := hw.arr
  exact hw.cons fun _ h => Sat.wh.2 ⟨s0, h⟩

end Go.Proofs.Ytgfneeoponiibaa
/- Reference 07: parts, and parts put together. No condition. -/
namespace Go.Proofs.Ytgfneeoponiibaa
open Go Go.VC

variable {R : Cx} {Hs Rest : List HP} {w : World}

theorem partR_spec {s : Sl} {bs : List Int} {a z : Int} (hz : z < 9223372036854775808) (hs : SlR R.m s (b8 bs)) (hw : Sat R Hs w) :
    Gets Try.prog 7 #[.slice s.a s.len s.cap, .int .i64 a, .int .i64 z] w fun v w' =>
      (¬ partOk bs.length a z ∧ v = .tuple #[.slice none 0 0, .int .i64 1] ∧ Sat R Hs w') ∨
      (partOk bs.length a z ∧ ∃ t : Sl, v = .tuple #[.slice t.a t.len t.cap, .int .i64 0] ∧ Sat R (Own t 5 (b8 (partB bs a z)) :: Hs) w') := by
  have hlen : s.len = bs.length := by have := hs.len; simpa using this
  have hcap := hs.cap
  apply call7
  refine ⟨fun w => partOk bs.length a z ∧ Sat R Hs w, ?_, ?_⟩
  · refine Br.d (fun h => ?_) (fun h => ?_)
    · exact .inl ⟨fun hk => by have := hk.1; omega, rfl, hw⟩
    refine Br.d (fun h2 => ?_) (fun h2 => ?_)
    · exact .inl ⟨fun hk => by have := hk.2.1; omega, rfl, hw⟩
    refine Br.d (fun h3 => ?_) (fun h3 => ?_)
    · exact .inl ⟨fun hk => by have := hk.2.1; omega, rfl, hw⟩
    refine Br.d (fun h4 => ?_) (fun h4 => ?_)
    · exact .inl ⟨fun hk => by have := hk.2.2; omega, rfl, hw⟩
    exact ⟨⟨by omega, ⟨by omega, by omega⟩, by omega⟩, hw⟩
  clear hw
  rintro _ w ⟨hok, hw⟩
  obtain ⟨h1, ⟨h2, h3⟩, h4⟩ := hok
  obtain ⟨an, rfl⟩ := Int.eq_ofNat_of_zero_le h2
  obtain ⟨zn, rfl⟩ := Int.eq_ofNat_of_zero_le (show 0 ≤ z by omega)
  have e0 : IntKind.i64.wrap ((s.len : Int) - (an : Int)) = ((bs.length - an : Nat) : Int) := by rw [wrap64 (by omega) (by omega)]; omega
  have e1 : (if ((bs.length - an : Nat) : Int) < (zn : Int) then ((bs.length - an : Nat) : Int) else (zn : Int)) = ((min zn (bs.length - an) : Nat) : Int) := by split <;> omega
  have e2 : IntKind.i64.wrap ((an : Int) + ((min zn (bs.length - an) : Nat) : Int)) = ((an + min zn (bs.length - an) : Nat) : Int) := by rw [wrap64 (by omega) (by omega)]; omega
  refine new_rule hw fun b w hw => ?_
  rw [e0, e1, e2]
  refine ⟨by omega, by omega, by omega, by omega, ?_⟩
  rw [Int.toNat_natCast, Int.toNat_natCast]
  have hd := hs.b8drop (k := an) (by omega)
  have ht := hd.b8take (k := min zn (bs.length - an)) (by simp; omega)
  have e3 : an + min zn (bs.length - an) - an = min zn (bs.length - an) := by omega
  rw [e3]
  have e4 : (bs.drop an).take (min zn (bs.length - an)) = partB bs an zn := by
    unfold partB
    rw [Int.toNat_natCast, Int.toNat_natCast, List.take_eq_take_iff, List.length_drop]
    omega
  rw [e4] at ht
  have hpl : (partB bs an zn).length ≤ 65536 := by unfold partB; simp; omega
  have h0 : Sat R (Own ⟨some ⟨b, 0, none⟩, 0, 0⟩ 5 [] :: Hs) w := Own.of_pts (xs := []) (rest := []) hw
  have hsrc : Src Try.prog 1 22 (.slice (sdrop s an).a (min zn (bs.length - an)) (sdrop s an).cap) (partB bs an zn).length (b8 (partB bs an zn)) w := by
    have := srcRo (s := ⟨(sdrop s an).a, min zn (bs.length - an), (sdrop s an).cap⟩) Try.underlying22 h0 (ht.ro (by simp; omega)) (one_b8 _)
    simpa using this
  refine append_rule elB8 (s := ⟨some ⟨b, 0, none⟩, 0, 0⟩) h0 hsrc rfl (by simp; omega) (by simp; omega) fun t w hw => ?_
  exact .inr ⟨⟨h1, ⟨h2, h3⟩, h4⟩, t, rfl, by simpa using hw⟩

abbrev rwCells (x : Wh) (s : Sl) : Obj := .cells [.slice s.a s.len s.cap, .int .i64 x.total, .bool x.begun].toArray 31 (0, 0)
def RWhAt (p : Nat) (x : Wh) : HP := exs fun s : Sl => Star [pts p (rwCells x s), Own s 5 (b8 x.bytes)]
theorem Sat.rwh {p : Nat} {x : Wh} : Sat R (RWhAt p x :: Hs) w ↔ ∃ s : Sl, Sat R (pts p (rwCells x s) :: Own s 5 (b8 x.bytes) :: Hs) w := by
  unfold RWhAt
  rw [Sat.exs]
  exact ⟨fun ⟨s, h⟩ => ⟨s, Sat.star.1 h⟩, fun ⟨s, h⟩ => ⟨s, Sat.star.2 h⟩⟩

theorem putRW_spec {p : Nat} {x : Wh} {a t : Int} {s : Sl} {b : List Int} (hs : Ro R s (b8 b)) (hw : Sat R (RWhAt p x :: Hs) w) :
    Gets Try.prog 9 #[.pointer (some ⟨p, 0, none⟩), .int .i64 a, .int .i64 t, .slice s.a s.len s.cap] w fun v w' => v = .int .i64 (putW x a t b).2 ∧ Sat R (RWhAt p (putW x a t b).1 :: Hs) w' := by
  have hlen : s.len = b.length := by have := hs.len; simpa using this
  apply call9
  have no : ¬ putOk a t b.length → ∀ {w}, Sat R (RWhAt p x :: Hs) w → Value.int .i64 1 = .int .i64 (putW x a t b).2 ∧ Sat R (RWhAt p (putW x a t b).1 :: Hs) w := fun h {w} hw => by
    have e : putW x a t b = (x, 1) := if_pos h
    rw [e]; exact ⟨rfl, hw⟩
  refine ⟨fun w => putOk a t b.length ∧ Sat R (RWhAt p x :: Hs) w, ?_, ?_⟩
  · refine Br.d (fun h => no (fun hk => by have := hk.1; omega) hw) (fun h1 => ?_)
    refine Br.d (fun h => no (fun hk => by have := hk.1; omega) hw) (fun h2 => ?_)
    refine Br.d (fun h => no (fun hk => by have := hk.2.1; omega) hw) (fun h3 => ?_)
    refine Br.d (fun h => no (fun hk => by have := hk.2.1; omega) hw) (fun h4 => ?_)
    rw [wrap64 (by omega) (by omega)]
    refine Br.d (fun h => no (fun hk => by have := hk.2.2; omega) hw) (fun h5 => ?_)
    exact ⟨⟨⟨by omega, by omega⟩, ⟨by omega, by omega⟩, by omega⟩, hw⟩
  clear hw
  rintro _ w ⟨hok, hw⟩
  obtain ⟨h1, h2, h3⟩ := id hok
  have e0 : putW x a t b = if a = 0 then (⟨true, t, b⟩, 0) else if x.begun = true ∧ a = x.bytes.length ∧ t = x.total then (⟨x.begun, x.total, x.bytes ++ b⟩, 0) else (x, 7) := if_neg (Decidable.not_not.2 hok)
  obtain ⟨s0, hw⟩ := Sat.rwh.1 hw
  refine Br.e (fun h => ?_) (fun h => ?_)
  · rw [if_pos h] at e0
    rw [e0]
    refine new_rule hw fun bn w hw => ?_
    have h0 : Sat R (Own ⟨some ⟨bn, 0, none⟩, 0, 0⟩ 5 [] :: pts p (rwCells x s0) :: Hs) w := (Own.of_pts (xs := []) (rest := []) hw).cons fun _ h => h.cons fun _ h => h.drop
    have hsrc : Src Try.prog 1 22 (.slice s.a s.len s.cap) b.length (b8 b) w := by
      have := srcRo Try.underlying22 h0 hs (one_b8 _)
      simpa using this
    refine append_rule elB8 (s := ⟨some ⟨bn, 0, none⟩, 0, 0⟩) h0 hsrc rfl (by simp; omega) (by simp; omega) fun s2 w hw => ?_
    have hw := hw.swap
    refine NilP.mk rfl ?_
    refine store_rule hw (by kernel_rfl) rfl (by simp [Value.cells]) fun w hw => ?_
    have hw := hw.re (pts p (rwCells ⟨x.begun, x.total, b⟩ s2))
    refine NilP.mk rfl ?_
    refine store_rule hw (by kernel_rfl) rfl (by simp [Value.cells]) fun w hw => ?_
    have hw := hw.re (pts p (rwCells ⟨x.begun, t, b⟩ s2))
    refine NilP.mk rfl ?_
    refine store_rule hw (by kernel_rfl) rfl (by simp [Value.cells]) fun w hw => ?_
    have hw := hw.re (pts p (rwCells ⟨true, t, b⟩ s2))
    exact ⟨rfl, Sat.rwh.2 ⟨s2, by simpa using hw⟩⟩
  · rw [if_neg h] at e0
    have hno : ¬ (x.begun = true ∧ a = x.bytes.length ∧ t = x.total) → ∀ {w}, Sat R (pts p (rwCells x s0) :: Own s0 5 (b8 x.bytes) :: Hs) w → Value.int .i64 7 = .int .i64 (putW x a t b).2 ∧ Sat R (RWhAt p (putW x a t b).1 :: Hs) w := fun hn {w} hw => by
      rw [e0, if_neg hn]; exact ⟨rfl, Sat.rwh.2 ⟨s0, hw⟩⟩
    have hl0 : s0.len = x.bytes.length := by have := Own.len hw.swap; simpa using this
    refine NilP.mk rfl ?_
    refine ⟨x.begun, At.own (eqS hw) (by exact ⟨rfl, trivial⟩), Br.nb (fun hb => hno (fun hk => by rw [hk.1] at hb; cases hb) hw) (fun hb => ?_)⟩
    refine NilP.mk rfl ?_
    refine ⟨s0, At.own (eqS hw) (by exact ⟨rfl, trivial⟩), ?_⟩
    rw [hl0]
    refine Br.ne (fun hb2 => hno (fun hk => hb2 hk.2.1) hw) (fun hb2 => ?_)
    refine NilP.mk rfl ?_
    refine ⟨x.total, At.own (eqS hw) (by exact ⟨rfl, trivial⟩), Br.ne (fun hb3 => hno (fun hk => hb3 hk.2.2) hw) (fun hb3 => ?_)⟩
    rw [e0, if_pos ⟨hb, hb2, hb3⟩]
    refine NilP.mk rfl ?_
    refine ⟨s0, At.own (eqS hw) (by exact ⟨rfl, trivial⟩), ?_⟩
    have hw := hw.swap
    have hsrc : Src Try.prog 1 22 (.slice s.a s.len s.cap) b.length (b8 b) w := by
      have := srcRo Try.underlying22 hw hs (one_b8 _)
      simpa using this
    refine append_rule elB8 (s := s0) hw hsrc (one_b8 _) (by rw [List.length_map]; omega) (by rw [List.length_map]; omega) fun s2 w hw => ?_
    refine NilP.mk rfl ?_
    have hw := hw.swap
    refine store_rule hw (by kernel_rfl) rfl (by simp [Value.cells]) fun w hw => ?_
    have hw := hw.re (pts p (rwCells ⟨x.begun, x.total, x.bytes ++ b⟩ s2))
    exact ⟨rfl, Sat.rwh.2 ⟨s2, by simpa [b8] using hw⟩⟩

theorem doneR_spec {p : Nat} {x : Wh} (hl : x.bytes.length ≤ 65536) (hw : Sat R (RWhAt p x :: Hs) w) :
    Gets Try.prog 11 #[.pointer (some ⟨p, 0, none⟩)] w fun v w' =>
      (doneW x = none ∧ v = .tuple #[.slice none 0 0, .bool false] ∧ Sat R (RWhAt p x :: Hs) w') ∨
      (∃ b, doneW x = some b ∧ b = x.bytes ∧ ∃ t : Sl, v = .tuple #[.slice t.a t.len t.cap, .bool true] ∧ Sat R (Own t 5 (b8 b) :: RWhAt p x :: Hs) w') := by
  apply call11
  obtain ⟨s0, hw⟩ := Sat.rwh.1 hw
  refine drw_rule hw fun w hw => ?_
  have hl0 : s0.len = x.bytes.length := by have := Own.len hw.swap; simpa using this
  refine NilP.mk rfl ?_
  refine ⟨x.begun, At.own selfS (by exact ⟨rfl, trivial⟩), Br.nb (fun hb => ?_) (fun hb => ?_)⟩
  · exact .inl ⟨if_neg (fun hk => by rw [hk.1] at hb; cases hb), rfl, Sat.rwh.2 ⟨s0, hw⟩⟩
  refine NilP.mk rfl ?_
  refine ⟨s0, At.own selfS (by exact ⟨rfl, trivial⟩), NilP.mk rfl ?_⟩
  refine ⟨x.total, At.own selfS (by exact ⟨rfl, trivial⟩), ?_⟩
  rw [hl0]
  refine Br.ne (fun hb2 => ?_) (fun hb2 => ?_)
  · exact .inl ⟨if_neg (fun hk => hb2 hk.2), rfl, Sat.rwh.2 ⟨s0, hw⟩⟩
  refine new_rule hw fun bn w hw => ?_
  have hw := hw.swap
  refine NilP.mk rfl ?_
  refine ⟨s0, At.own (eqS hw) (by exact ⟨rfl, trivial⟩), ?_⟩
  have hw2 : Sat R (Own s0 5 (b8 x.bytes) :: pts bn (.cells [].toArray 5 (0, 0)) :: pts p (rwCells x s0) :: Hs) w := hw.arr
  obtain ⟨R', hr, _, hw, back⟩ := Own.lend hw2 (by simp; omega)
  have h0 : Sat R' (Own ⟨some ⟨bn, 0, none⟩, 0, 0⟩ 5 [] :: pts p (rwCells x s0) :: Hs) w := Own.of_pts (xs := []) (rest := []) hw
  have hsrc : Src Try.prog 1 22 (.slice s0.a s0.len s0.cap) x.bytes.length (b8 x.bytes) w := by
    have := srcRo Try.underlying22 h0 hr (one_b8 _)
    simpa using this
  refine append_rule elB8 (s := ⟨some ⟨bn, 0, none⟩, 0, 0⟩) h0 hsrc rfl (by simp; omega) (by simp; omega) fun t w hw => ?_
  have hw := back hw
  refine .inr ⟨x.bytes, if_pos ⟨hb, hb2⟩, rfl, t, rfl, ?_⟩
  have hw : Sat R (Own t 5 (b8 x.bytes) :: pts p (rwCells x s0) :: Own s0 5 (b8 x.bytes) :: Hs) w := by
    have h := hw.swap
    simpa using h.cons fun _ h => h.swap
  exact hw.cons fun _ h => Sat.rwh.2 ⟨s0, h⟩

end Go.Proofs.Ytgfneeoponiibaa
/- KeepParts: the law. No condition. -/
namespace Go.Proofs.Ytgfneeoponiibaa
open Go Go.VC

variable {R : Cx} {Hs Rest : List HP} {w : World}

theorem putW_len {x : Wh} {a t : Int} {b : List Int} (h : x.bytes.length ≤ 65536) : (putW x a t b).1.bytes.length ≤ 65536 := by
  unfold putW
  split
  · exact h
  · rename_i hk
    have hk : putOk a t b.length := Decidable.not_not.1 hk
    obtain ⟨h1, h2, h3⟩ := hk
    split
    · simp only; omega
    · split
      · rename_i hc
        simp only [List.length_append]
        omega
      · exact h

abbrev rowP (p : Int × Int) : List Value := [.int .i64 p.1, .int .i64 p.2]

theorem pair0 {l : Sl} {E : List (Int × Int)} {S : World → Prop} (hr : ReadsN 2 l (E.map rowP) S) {k : Nat} (hk : k < E.length) {F : Int → Prop} (f : F E[k].1) :
    Rng (k : Int) l.len (NilP l.a fun a => ∃ t : Int, (At S (Addr.add (Addr.add a (mulS (k : Int).toNat 2)) 0) [.int .i64 t]) ∧ F t) :=
  hr.rngM hk fun a _ e => ⟨E[k].1, e.zz ⟨rfl, trivial⟩, f⟩
theorem pair1 {l : Sl} {E : List (Int × Int)} {S : World → Prop} (hr : ReadsN 2 l (E.map rowP) S) {k : Nat} (hk : k < E.length) {F : Int → Prop} (f : F E[k].2) :
    Rng (k : Int) l.len (NilP l.a fun a => ∃ t : Int, (At S (Addr.add (Addr.add a (mulS (k : Int).toNat 2)) 1) [.int .i64 t]) ∧ F t) := by
  have hg : (E.map rowP)[k]'(by simpa using hk) = rowP E[k] := by simp
  refine hr.rng (k := k) (by simpa using hk) fun b off ha hat => ⟨E[k].2, ?_, f⟩
  rw [Int.toNat_natCast, elt_addr0, add_off]
  have := hat 1 [.int .i64 E[k].2] (by rw [hg]; exact ⟨rfl, trivial⟩)
  exact this

/-- A string out of bytes that are only read. -/
theorem strR {s : Sl} {bs : List Int} (hw : Sat R Hs w) (hs : Ro R s (b8 bs)) : ∀ w', (fun w' => w' = w) w' → (convert 22 9 (.slice s.a s.len s.cap)).run Try.prog w' = .ok (.string (VC.strOf bs)) w' :=
  fun w' e => by rw [show w' = w from e]; exact convS_ro Try.underlying22 Try.underlying5 Try.underlying9 hw hs

set_option maxRecDepth 100000 in
theorem parts_law {s l m : Sl} {bs : List Int} {E : List (Int × Int)} {ps : List (Sl × List Int)} (hbl : bs.length ≤ maxLen) (hs : SlR R.m s (b8 bs)) (hl : RoN 2 R l (E.map rowP)) (hE : ∀ p ∈ E, p.1 < 9223372036854775808 ∧ p.2 < 9223372036854775808)
    (hm : Ro R m ((ps.map (·.1)).map Sl.v)) (hps : ∀ p ∈ ps, Ro R p.1 (b8 p.2)) (hw : Sat R Hs w) :
    Gets Try.prog 3 #[.slice s.a s.len s.cap, .slice l.a l.len l.cap, .slice m.a m.len m.cap] w fun v w' => v = .bool true ∧ Sat R Hs w' := by
  have hlen : s.len = bs.length := by have := hs.len; simpa using this
  have hll : l.len = E.length := by have := hl.len; simpa using this
  have hml : m.len = ps.length := by have := hm.len; simpa using this
  apply call3
  refine (awake_spec hw).use ?_
  rintro _ w ⟨rfl, hw⟩
  refine ⟨true, rfl, Br.mk (fun h => ⟨rfl, hw⟩) (fun h => ?_)⟩
  refine new_rule hw fun p w hw => new_rule hw fun q w hw => ?_
  have hw : Sat R (WhAt p ⟨false, 0, []⟩ :: RWhAt q ⟨false, 0, []⟩ :: Hs) w := by
    have hw : Sat R (pts q (rwCells ⟨false, 0, []⟩ ⟨none, 0, 0⟩) :: pts p (whCells ⟨false, 0, []⟩ ⟨none, 0, 0⟩) :: Hs) w := hw
    have h1 : Sat R (RWhAt q ⟨false, 0, []⟩ :: pts p (whCells ⟨false, 0, []⟩ ⟨none, 0, 0⟩) :: Hs) w := Sat.rwh.2 ⟨⟨none, 0, 0⟩, hw.cons fun _ h => Own.nil h⟩
    exact Sat.wh.2 ⟨⟨none, 0, 0⟩, h1.swap.cons fun _ h => Own.nil h⟩
  refine ⟨fun i w => ∃ (k : Nat) (x : Wh), i = k ∧ k ≤ E.length ∧ x.bytes.length ≤ 65536 ∧ Sat R (WhAt p x :: RWhAt q x :: Hs) w, fun i _ => E.length - i.toNat, ⟨0, _, rfl, by omega, by simp, hw⟩, ?_⟩
  clear hw
  intro _ i10 w hI
  obtain ⟨k, x, hi, hk, hx, hw⟩ := hI
  rw [hi]
  clear hi
  have out : ∀ {w}, Sat R (WhAt p x :: RWhAt q x :: Hs) w → Value.bool true = .bool true ∧ Sat R Hs w := fun hw => ⟨rfl, hw.drop.drop⟩
  refine ⟨fun w => (k < E.length ∧ k < 60) ∧ Sat R (WhAt p x :: RWhAt q x :: Hs) w, Br.mk (fun h => Br.mk (fun h6 => ⟨?_, hw⟩) (fun _ => out hw)) (fun _ => out hw), ?_⟩
  · have := of_decide_eq_true h; have := of_decide_eq_true h6; omega
  clear hw
  rintro _ w ⟨⟨hke, hk60⟩, hw⟩
  have rdl : ∀ {S : World → Prop} {Hs'}, (∀ w, S w → Sat R Hs' w) → ReadsN 2 l (E.map rowP) S := fun hS => hl.reads hS
  have hEk := hE E[k] (List.getElem_mem _)
  refine drw_rule hw fun w hw => ?_
  refine pair0 (rdl selfS) hke (pair1 (rdl selfS) hke ?_)
  refine (part_spec hEk.2 hs hw).use ?_
  intro v1 w hv1
  obtain ⟨t1, e1, y1, hv1, hw, hy1⟩ : ∃ (t1 : Sl) (e1 : Int) (y1 : List Int), v1 = .tuple #[.slice t1.a t1.len t1.cap, .int .i64 e1] ∧ Sat R (Own t1 5 (b8 y1) :: WhAt p x :: RWhAt q x :: Hs) w ∧
      ((¬ partOk bs.length E[k].1 E[k].2 ∧ e1 = 1 ∧ y1 = []) ∨ (partOk bs.length E[k].1 E[k].2 ∧ e1 = 0 ∧ y1 = partB bs E[k].1 E[k].2)) := by
    rcases hv1 with ⟨h1, h2, h3⟩ | ⟨h1, t, h2, h3⟩
    · exact ⟨⟨none, 0, 0⟩, 1, [], h2, Own.nil h3, .inl ⟨h1, rfl, rfl⟩⟩
    · exact ⟨t, 0, _, h2, h3, .inr ⟨h1, rfl, rfl⟩⟩
  rw [hv1]
  refine ⟨t1, e1, rfl, ?_⟩
  refine drw_rule hw fun w hw => ?_
  refine pair0 (rdl selfS) hke (pair1 (rdl selfS) hke ?_)
  refine (partR_spec hEk.2 hs hw).use ?_
  intro v2 w hv2
  obtain ⟨t2, hv2, hw⟩ : ∃ (t2 : Sl), v2 = .tuple #[.slice t2.a t2.len t2.cap, .int .i64 e1] ∧ Sat R (Own t2 5 (b8 y1) :: Own t1 5 (b8 y1) :: WhAt p x :: RWhAt q x :: Hs) w := by
    rcases hv2 with ⟨h1, h2, h3⟩ | ⟨h1, t, h2, h3⟩
    · rcases hy1 with ⟨_, rfl, rfl⟩ | ⟨h4, _⟩
      · exact ⟨⟨none, 0, 0⟩, h2, Own.nil h3⟩
      · exact absurd h4 h1
    · rcases hy1 with ⟨h4, _⟩ | ⟨_, rfl, rfl⟩
      · exact absurd h1 h4
      · exact ⟨t, h2, h3⟩
  rw [hv2]
  refine ⟨t2, e1, rfl, ?_⟩
  have hy1l : y1.length ≤ 65536 := by
    rcases hy1 with ⟨_, _, rfl⟩ | ⟨h1, _, rfl⟩
    · simp
    · have := h1.1
      unfold partB; simp; omega
  refine ⟨Sat R (WhAt p x :: RWhAt q x :: Hs), ?_, ?_⟩
  · obtain ⟨R1, hr1, _, hw, back1⟩ := Own.lend hw (by simp; omega)
    obtain ⟨R2, hr2, keep2, hw, back2⟩ := Own.lend hw (by simp; omega)
    refine ⟨VC.strOf y1, strR hw hr2, VC.strOf y1, strR hw (keep2 _ _ hr1), ?_⟩
    have hw := (back1 (back2 hw).drop).drop
    refine Br.mk (fun h => ?_) (fun _ => Br.ne (fun h => absurd rfl h) (fun _ => hw))
    simp at h
  clear hw
  intro _ w hw
  have next : ∀ {w} {x : Wh}, x.bytes.length ≤ 65536 → Sat R (WhAt p x :: RWhAt q x :: Hs) w → (∃ (k' : Nat) (x : Wh), IntKind.i64.wrap ((k : Int) + 1) = k' ∧ k' ≤ E.length ∧ x.bytes.length ≤ 65536 ∧ Sat R (WhAt p x :: RWhAt q x :: Hs) w) ∧ E.length - (IntKind.i64.wrap ((k : Int) + 1)).toNat < E.length - (k : Int).toNat := fun hx hw => by
    rw [wrap64 (by omega) (by omega)]
    exact ⟨⟨k + 1, _, by omega, by omega, hx, hw⟩, by omega⟩
  refine Br.mk (fun h => ?_) (fun h => next hx hw)
  have hkp : k < ps.length := by have := of_decide_eq_true h; omega
  have hpk : (ps.map (·.1))[k]'(by simpa using hkp) = ps[k].1 := by simp
  have hPk := hps ps[k] (List.getElem_mem _)
  refine hm.idxS (eqS hw) (k := k) (by simpa using hkp) ?_
  rw [hpk]
  have hpl : ps[k].1.len = ps[k].2.length := by have := hPk.len; simpa using this
  refine Br.d (fun _ => out hw) (fun hsz => ?_)
  refine drw_rule hw fun w hw => ?_
  refine pair0 (rdl selfS) hke (pair1 (rdl selfS) hke ?_)
  refine hm.idxS selfS (k := k) (by simpa using hkp) ?_
  rw [hpk]
  refine (put_spec hPk hw).use ?_
  rintro _ w ⟨rfl, hw⟩
  refine ⟨_, rfl, ?_⟩
  refine drw_rule hw fun w hw => ?_
  refine pair0 (rdl selfS) hke (pair1 (rdl selfS) hke ?_)
  refine hm.idxS selfS (k := k) (by simpa using hkp) ?_
  rw [hpk]
  refine (putRW_spec hPk hw.swap).use ?_
  rintro _ w ⟨rfl, hw⟩
  refine ⟨_, rfl, ?_⟩
  have hy := putW_len (a := E[k].1) (t := E[k].2) (b := ps[k].2) hx
  generalize putW x E[k].1 E[k].2 ps[k].2 = y at hw hy ⊢
  refine (done_spec hy hw.swap).use ?_
  intro v3 w hv3
  obtain ⟨t3, d3, y3, hv3, hw, h3⟩ : ∃ (t3 : Sl) (d3 : Bool) (y3 : List Int), v3 = .tuple #[.slice t3.a t3.len t3.cap, .bool d3] ∧ Sat R (Own t3 5 (b8 y3) :: WhAt p y.1 :: RWhAt q y.1 :: Hs) w ∧
      ((doneW y.1 = none ∧ d3 = false ∧ y3 = []) ∨ (doneW y.1 = some y3 ∧ d3 = true ∧ y3 = y.1.bytes)) := by
    rcases hv3 with ⟨h1, h2, h3⟩ | ⟨b, h1, h2, t, h3, h4⟩
    · exact ⟨⟨none, 0, 0⟩, false, [], h2, Own.nil h3, .inl ⟨h1, rfl, rfl⟩⟩
    · exact ⟨t, true, b, h3, h4, .inr ⟨h1, rfl, h2⟩⟩
  rw [hv3]
  refine ⟨t3, d3, rfl, ?_⟩
  have hw : Sat R (RWhAt q y.1 :: Own t3 5 (b8 y3) :: WhAt p y.1 :: Hs) w := hw.arr
  refine (doneR_spec hy hw).use ?_
  intro v4 w hv4
  obtain ⟨t4, hv4, hw⟩ : ∃ (t4 : Sl), v4 = .tuple #[.slice t4.a t4.len t4.cap, .bool d3] ∧ Sat R (Own t4 5 (b8 y3) :: Own t3 5 (b8 y3) :: WhAt p y.1 :: RWhAt q y.1 :: Hs) w := by
    rcases hv4 with ⟨h1, h2, h4⟩ | ⟨b, h1, h2, t, h4, h5⟩
    · rcases h3 with ⟨_, rfl, rfl⟩ | ⟨h6, _⟩
      · have h4 : Sat R (Own t3 5 (b8 []) :: WhAt p y.1 :: RWhAt q y.1 :: Hs) w := h4.arr
        exact ⟨⟨none, 0, 0⟩, h2, Own.nil h4⟩
      · rw [h1] at h6; cases h6
    · rcases h3 with ⟨h6, _⟩ | ⟨h6, rfl, rfl⟩
      · rw [h1] at h6; cases h6
      · subst h2
        exact ⟨t, h4, h5.arr⟩
  rw [hv4]
  refine ⟨t4, d3, rfl, ?_⟩
  have hy3 : y3.length ≤ 65536 := by
    rcases h3 with ⟨_, _, rfl⟩ | ⟨_, _, rfl⟩
    · simp
    · exact hy
  refine Br.ne (fun h => absurd rfl h) (fun _ => ?_)
  obtain ⟨R1, hr1, _, hw, back1⟩ := Own.lend hw (by simp; omega)
  obtain ⟨R2, hr2, keep2, hw, back2⟩ := Own.lend hw (by simp; omega)
  refine ⟨VC.strOf y3, strR hw hr2, VC.strOf y3, strR hw (keep2 _ _ hr1), ?_⟩
  have hw := (back1 (back2 hw).drop).drop
  refine Br.mk (fun h => by simp at h) (fun _ => ?_)
  refine Br.mk (fun h => by simp at h) (fun _ => next hy hw)

end Go.Proofs.Ytgfneeoponiibaa
/- ROW: from a reading of an argument to what the contracts ask; from a walk's end to 'Below'. No condition. -/
namespace Go.VC
open Go.ChangeShapes Go.WideShapes Go.ChangeAt Go.RowKit

theorem below_of {W W' : World} {Hs : List HP} (h : Sat (Cx.of W) Hs W') : Below W.heap.size W W' := by
  obtain ⟨h1, h2, h3⟩ := h.streams
  have hb : ∀ k, k < W.heap.size → W'.heap[k]? = W.heap[k]? := fun k hk => by
    have : (Cx.of W).m k = some W.heap[k] := by simp [Cx.of, hk]
    rw [h.of_ro this]; simp [hk]
  refine ⟨h1, h2, h3, ?_, hb⟩
  rcases Nat.lt_or_ge W'.heap.size W.heap.size with hl | hl
  · have := hb W'.heap.size hl
    rw [Array.getElem?_eq_none (Nat.le_refl _)] at this
    simp [hl] at this
  · exact hl

theorem block_of_cell {w : World} {a : Addr} {v : Value} (h : w.cell? a = some v) : a.spot = none ∧ ∃ l T fr, w.heap[a.block]? = some (.cells l T fr) ∧ l[a.off]? = some v := by
  unfold World.cell? at h
  split at h
  · rename_i c T fr hb
    split at h
    · cases h
    · rename_i hs
      exact ⟨by simpa using hs, c, T, fr, hb, h⟩
  · cases h

/-- A slice of one-cell elements that was read: told by the cells that hold them. -/
theorem ro_of_cells {W : World} {a : Addr} {n c : Nat} {xs : List Value} (hn : n = xs.length) (hb : xs.length ≤ 9223372036854775807)
    (hc : ∀ i (h : i < xs.length), W.cell? (a.add i) = some xs[i]) : Ro (Cx.of W) ⟨some a, n, c⟩ xs := by
  refine ⟨hn, hb, fun hne => ?_⟩
  have h0 : 0 < xs.length := List.length_pos_iff.2 hne
  have hc0 := hc 0 h0
  simp only [Addr.add, if_true] at hc0
  obtain ⟨hs, l, T, fr, hl, _⟩ := block_of_cell hc0
  refine ⟨a.block, a.off, l, T, fr, ?_, hl, fun i v hv => ?_⟩
  · cases a; simp_all
  · obtain ⟨hi, rfl⟩ := List.getElem?_eq_some_iff.1 hv
    obtain ⟨_, l', T', fr', hl', hx⟩ := block_of_cell (hc i hi)
    have e1 : (a.add i).block = a.block := by unfold Addr.add; split <;> rfl
    have e2 : (a.add i).off = a.off + i := by unfold Addr.add; split <;> simp_all
    rw [e1, hl] at hl'
    cases hl'
    rw [e2] at hx
    exact hx

section
variable {H : Type} {enc : TypeId × Value → H} {P : Program} {W : World} {base : Nat} {spare : Nat → Bool} {held : Bool}

theorem ro_nil {W : World} {c : Nat} : Ro (Cx.of W) ⟨none, 0, c⟩ [] := ⟨rfl, by simp, fun h => absurd rfl h⟩

/-- A slice of ints (64 bits) that came in. -/
theorem roI_of_trod {t e : TypeId} {fuel : Nat} {a : Option Addr} {n c : Nat} {x : DataW H × List MemPlace} (ht : P.underlying t = some (.slice e)) (he : P.underlying e = some (.int .i64)) (hc : P.cellsOf e = 1)
    (h : DataW.trod enc P W base spare held fuel t [.slice a n c] = some x) : ∃ xs, RoI (Cx.of W) ⟨a, n, c⟩ xs ∧ ∀ z ∈ xs, -9223372036854775808 ≤ z ∧ z < 9223372036854775808 := by
  rcases open_ints ht he hc h with ⟨hcs, _⟩ | ⟨x, l, cp, zs, hcs, _, hl, hm, hz, _, hcell, hwz⟩
  · simp at hcs
    obtain ⟨rfl, rfl, rfl⟩ := hcs
    exact ⟨[], ro_nil, fun z hz => by cases hz⟩
  · simp at hcs
    obtain ⟨rfl, rfl, rfl⟩ := hcs
    have hlz : n ≤ zs.length := by rw [hz]; split <;> omega
    refine ⟨zs.take n, ro_of_cells (by simp; omega) ?_ ?_, fun z hz => ?_⟩
    · unfold maxLen at hm; simp; omega
    · intro i hi
      simp at hi
      rw [hcell i (by omega)]
      have : i < zs.length := by omega
      simp [this]
    · have := hwz z (List.mem_of_mem_take hz)
      simp only [Lit.wf] at this
      simp [IntKind.min, IntKind.max, IntKind.bits, IntKind.signed] at this
      omega

end
end Go.VC
/- ROW, part 2: arguments that came in, by their types: what the contracts ask. No condition. -/
namespace Go.VC
open Go.ChangeShapes Go.WideShapes Go.ChangeAt Go.RowKit

section
variable {H : Type} {enc : TypeId × Value → H} {P : Program} {W : World} {r : Reach} {b0 : Nat} {t e : TypeId} {v : Value} {d : DataW H} {p : List MemPlace} {n : Nat}

theorem okWide_array (ht : P.underlying t = some (.array n e)) (h : Value.okWide P W r b0 t v) : ∃ cs, v = .agg cs ∧ cs.size = P.cellsOf t := by
  simp only [Value.okWide, ht] at h
  obtain ⟨cs, h1, h2, _⟩ := h
  exact ⟨cs, h1, h2⟩

/-- An array of one-cell elements. -/
theorem arr_in (ht : P.underlying t = some (.array n e)) (hc : P.cellsOf e = 1) (hC : P.cellsOf t = n) (hv : Value.okWide P W r b0 t v) (h : DataW.Trod enc P W 0 (fun _ => true) true t v d p) :
    ∃ cs : List Value, v = .agg cs.toArray ∧ cs.length = n ∧ ∀ c ∈ cs, ∃ m y, DataW.trod enc P W 0 (fun _ => true) true m e [c] = some y := by
  obtain ⟨cs, rfl, hsz⟩ := okWide_array ht hv
  obtain ⟨fuel, hf⟩ := h
  obtain ⟨xs, m, _, _, hl, hx, hi⟩ := DataW.trod_array ht hf
  refine ⟨cs.toList, by simp, by simpa [hC] using hsz, fun c hcm => ?_⟩
  obtain ⟨i, hlt, rfl⟩ := List.getElem_of_mem hcm
  have hin : i < n := by rw [← hC, ← hsz]; simpa using hlt
  have h2 := hi i hin
  rw [hc, Nat.mul_one] at h2
  have e1 : ((Value.agg cs).cells.toList.drop i).take 1 = [cs.toList[i]] := by
    show (cs.toList.drop i).take 1 = _
    rw [List.drop_eq_getElem_cons hlt]; rfl
  rw [e1] at h2
  have : i < xs.length := by omega
  exact ⟨m, xs[i], by rw [h2]; simp [this]⟩

/-- An array of integers. -/
theorem arrI_in {k : IntKind} (ht : P.underlying t = some (.array n e)) (he : P.underlying e = some (.int k)) (hc : P.cellsOf e = 1) (hC : P.cellsOf t = n) (hv : Value.okWide P W r b0 t v) (h : DataW.Trod enc P W 0 (fun _ => true) true t v d p) :
    ∃ A : List Int, A.length = n ∧ v = .agg (A.map (Value.int k)).toArray ∧ ∀ z ∈ A, (Lit.int k z).wf = true := by
  obtain ⟨cs, rfl, hl, hcs⟩ := arr_in ht hc hC hv h
  have : ∀ l : List Value, (∀ c ∈ l, ∃ m y, DataW.trod enc P W 0 (fun _ => true) true m e [c] = some y) → ∃ A : List Int, l = A.map (Value.int k) ∧ ∀ z ∈ A, (Lit.int k z).wf = true := by
    intro l
    induction l with
    | nil => exact fun _ => ⟨[], rfl, by simp⟩
    | cons c l ih =>
      intro hl
      obtain ⟨A, rfl, hA⟩ := ih fun c hc => hl c (List.mem_cons_of_mem _ hc)
      obtain ⟨m, y, hy⟩ := hl c List.mem_cons_self
      obtain ⟨z, hz, _, hw⟩ := DataW.trod_int he hy
      simp only [List.cons.injEq, and_true] at hz
      subst hz
      refine ⟨z :: A, rfl, fun z' hz' => ?_⟩
      rcases List.mem_cons.1 hz' with rfl | hz'
      · exact hw
      · exact hA z' hz'
  obtain ⟨A, rfl, hA⟩ := this cs hcs
  exact ⟨A, by simpa using hl, rfl, hA⟩

/-- A slice of ints. -/
theorem ints_in (ht : P.underlying t = some (.slice e)) (he : P.underlying e = some (.int .i64)) (hc : P.cellsOf e = 1) (hv : Value.okWide P W r b0 t v) (h : DataW.Trod enc P W 0 (fun _ => true) true t v d p) :
    ∃ s xs, v = .slice s.a s.len s.cap ∧ RoI (Cx.of W) s xs ∧ ∀ z ∈ xs, -9223372036854775808 ≤ z ∧ z < 9223372036854775808 := by
  obtain ⟨a, l, c, rfl⟩ := okWide_slice ht hv
  obtain ⟨fuel, hf⟩ := h
  obtain ⟨xs, hx, hb⟩ := roI_of_trod ht he hc (by simpa [Value.cells] using hf)
  exact ⟨⟨a, l, c⟩, xs, rfl, hx, hb⟩

/-- A struct of two slices of ints. -/
theorem two_in {f0 f1 : Field} {e0 e1 : TypeId} (hs : P.underlying t = some (.struct #[f0, f1])) (hone : Deep.oneCellFields P #[f0, f1] = true) (hC : P.cellsOf t = 2)
    (ht0 : P.underlying f0.type = some (.slice e0)) (he0 : P.underlying e0 = some (.int .i64)) (hc0 : P.cellsOf e0 = 1)
    (ht1 : P.underlying f1.type = some (.slice e1)) (he1 : P.underlying e1 = some (.int .i64)) (hc1 : P.cellsOf e1 = 1)
    (hv : Value.okWide P W r b0 t v) (h : DataW.Trod enc P W 0 (fun _ => true) true t v d p) :
    ∃ s t xs ys, v = .agg #[.slice s.a s.len s.cap, .slice t.a t.len t.cap] ∧ RoI (Cx.of W) s xs ∧ RoI (Cx.of W) t ys ∧ (∀ z ∈ xs, -9223372036854775808 ≤ z ∧ z < 9223372036854775808) ∧ (∀ z ∈ ys, -9223372036854775808 ≤ z ∧ z < 9223372036854775808) := by
  obtain ⟨v0, v1, y0, y1, n, rfl, _, _, h0, h1⟩ := Joins.open_agg2 hs hone hC hv h
  obtain ⟨a0, l0, c0, e0⟩ := Joins.slice_form ht0 h0
  obtain ⟨a1, l1, c1, e1⟩ := Joins.slice_form ht1 h1
  simp only [List.cons.injEq, and_true] at e0 e1
  subst e0 e1
  obtain ⟨xs, hx, hbx⟩ := roI_of_trod ht0 he0 hc0 h0
  obtain ⟨ys, hy, hby⟩ := roI_of_trod ht1 he1 hc1 h1
  exact ⟨⟨a0, l0, c0⟩, ⟨a1, l1, c1⟩, xs, ys, rfl, hx, hy, hbx, hby⟩

/-- An array of two slices of ints. -/
theorem arr2S_in {e' : TypeId} (ht : P.underlying t = some (.array 2 e)) (he : P.underlying e = some (.slice e')) (he' : P.underlying e' = some (.int .i64)) (hc' : P.cellsOf e' = 1) (hc : P.cellsOf e = 1) (hC : P.cellsOf t = 2) (hv : Value.okWide P W r b0 t v) (h : DataW.Trod enc P W 0 (fun _ => true) true t v d p) :
    ∃ s t xs ys, v = .agg #[.slice s.a s.len s.cap, .slice t.a t.len t.cap] ∧ RoI (Cx.of W) s xs ∧ RoI (Cx.of W) t ys := by
  obtain ⟨cs, rfl, hl, hcs⟩ := arr_in ht hc hC hv h
  match cs, hl, hcs with
  | [c0, c1], _, hcs =>
    obtain ⟨m0, y0, h0⟩ := hcs c0 (by simp)
    obtain ⟨m1, y1, h1⟩ := hcs c1 (by simp)
    obtain ⟨a0, l0, p0, e0⟩ := Joins.slice_form he h0
    obtain ⟨a1, l1, p1, e1⟩ := Joins.slice_form he h1
    simp only [List.cons.injEq, and_true] at e0 e1
    subst e0 e1
    obtain ⟨xs, hx, _⟩ := roI_of_trod he he' hc' h0
    obtain ⟨ys, hy, _⟩ := roI_of_trod he he' hc' h1
    exact ⟨⟨a0, l0, p0⟩, ⟨a1, l1, p1⟩, xs, ys, rfl, hx, hy⟩

end
end Go.VC
/- ROW, part 3: arguments of any plain type (integers, bools, strings, slices, structs, arrays of such), read as trees. No condition. -/
namespace Go.VC
open Go.ChangeShapes Go.WideShapes Go.ChangeAt Go.RowKit

inductive Tr where
  | int (k : IntKind) (n : Int) | bool (b : Bool) | str (s : ByteArray) | sl (s : Sl) (xs : List Tr) | st (xs : List Tr)

mutual
def Tr.cells : Tr → List Value
  | .int k n => [.int k n]
  | .bool b => [.bool b]
  | .str s => [.string s]
  | .sl s _ => [.slice s.a s.len s.cap]
  | .st xs => Tr.cellsL xs
def Tr.cellsL : List Tr → List Value
  | [] => []
  | x :: xs => x.cells ++ Tr.cellsL xs
end

inductive U where
  | int (k : IntKind) | bool | str | sl (u : U) | st (us : List U)

mutual
def U.size : U → Nat
  | .st us => U.sizeL us
  | _ => 1
def U.sizeL : List U → Nat
  | [] => 0
  | u :: us => u.size + U.sizeL us
end

mutual
def Tr.Ok (R : Cx) : U → Tr → Prop
  | .int k, .int k' n => k' = k ∧ (Lit.int k n).wf = true
  | .bool, .bool _ => True
  | .str, .str s => s.size ≤ maxLen
  | .sl u, .sl s xs => RoN u.size R s (xs.map Tr.cells) ∧ xs.length ≤ maxLen ∧ Tr.OkA R u xs
  | .st us, .st xs => Tr.OkL R us xs
  | _, _ => False
def Tr.OkA (R : Cx) (u : U) : List Tr → Prop
  | [] => True
  | x :: xs => Tr.Ok R u x ∧ Tr.OkA R u xs
def Tr.OkL (R : Cx) : List U → List Tr → Prop
  | [], [] => True
  | u :: us, x :: xs => Tr.Ok R u x ∧ Tr.OkL R us xs
  | _, _ => False
end

theorem Tr.okA {R : Cx} {u : U} : ∀ {xs : List Tr}, Tr.OkA R u xs → ∀ x ∈ xs, Tr.Ok R u x
  | [], _, x, hx => by cases hx
  | y :: ys, h, x, hx => by
    unfold Tr.OkA at h
    rcases List.mem_cons.1 hx with rfl | hx
    · exact h.1
    · exact Tr.okA h.2 x hx
theorem Tr.okA_mk {R : Cx} {u : U} : ∀ {xs : List Tr}, (∀ x ∈ xs, Tr.Ok R u x) → Tr.OkA R u xs
  | [], _ => by unfold Tr.OkA; trivial
  | y :: ys, h => by
    unfold Tr.OkA
    exact ⟨h y List.mem_cons_self, Tr.okA_mk fun x hx => h x (List.mem_cons_of_mem _ hx)⟩

/-- The shape of a type. -/
def fieldsU (P : Program) (f : TypeId → Option U) : Nat → List Field → Option (List U)
  | _, [] => some []
  | off, x :: xs => match Nat.beq x.offset off with
    | false => none
    | true => match f x.type with
      | none => none
      | some u => match Nat.beq (P.cellsOf x.type) u.size with
        | false => none
        | true => match fieldsU P f (off + u.size) xs with
          | none => none
          | some us => some (u :: us)
def uOf (P : Program) : Nat → TypeId → Option U
  | 0, _ => none
  | d + 1, t => match P.underlying t with
    | some (.int k) => some (.int k)
    | some .bool => some .bool
    | some .string => some .str
    | some (.slice e) => match uOf P d e with
      | some u => (match Nat.beq (P.cellsOf e) u.size && Nat.blt 0 u.size with | true => some (.sl u) | false => none)
      | none => none
    | some (.struct fs) => match fieldsU P (uOf P d) 0 fs.toList with
      | some us => (match Nat.beq (P.cellsOf t) (U.sizeL us) with | true => some (.st us) | false => none)
      | none => none
    | some (.array n e) => match uOf P d e with
      | some u => (match Nat.beq (P.cellsOf e) u.size && Nat.beq (P.cellsOf t) (n * u.size) with | true => some (.st (List.replicate n u)) | false => none)
      | none => none
    | _ => none

section
variable {H : Type} {enc : TypeId × Value → H} {P : Program} {W : World} {base : Nat} {spare : Nat → Bool} {held : Bool}

/-- Cells of some tree of shape u. -/
def IsTr (R : Cx) (u : U) (cs : List Value) : Prop := ∃ x : Tr, x.cells = cs ∧ x.Ok R u

theorem cells?_cell {w : World} {base : Nat} {a : Addr} {n : Nat} {cs : List Value} (h : w.cells? base a n = some cs) : cs.length = n ∧ ∀ i, i < n → w.cell? (a.add i) = cs[i]? := by
  unfold World.cells? at h
  split at h
  · refine ⟨by have := mapM_some_length h; simpa using this, fun i hi => mapM_some_get h i i (by simp [hi])⟩
  · cases h

theorem add_add (a : Addr) (i j : Nat) (hs : a.spot = none) : (a.add i).add j = ⟨a.block, a.off + (i + j), none⟩ := by
  obtain ⟨b, o, s⟩ := a
  simp only at hs
  subst hs
  rw [add_off, add_off, Nat.add_assoc]

theorem fields_read {d : Nat} (ih : ∀ {fuel : Nat} {t : TypeId} {cs : List Value} {y : DataW H × List MemPlace} {u : U}, uOf P d t = some u → DataW.trod enc P W base spare held fuel t cs = some y → IsTr (Cx.of W) u cs) {n : Nat} {cs : List Value} {xs : List (DataW H × List MemPlace)} :
    ∀ (fs : List Field) (off : Nat) (us : List U), fieldsU P (uOf P d) off fs = some us → (∀ (i : Nat) (f : Field), fs[i]? = some f → ∃ y, DataW.trod enc P W base spare held n f.type ((cs.drop f.offset).take (P.cellsOf f.type)) = some y) →
      off + U.sizeL us ≤ cs.length → ∃ ts : List Tr, Tr.cellsL ts = (cs.drop off).take (U.sizeL us) ∧ Tr.OkL (Cx.of W) us ts
  | [], off, us, h, _, _ => by
    simp only [fieldsU, Option.some.injEq] at h
    subst h
    exact ⟨[], by simp [Tr.cellsL, U.sizeL], by unfold Tr.OkL; trivial⟩
  | f :: fs, off, us, h, hf, hl => by
    unfold fieldsU at h
    split at h
    · cases h
    rename_i hoff
    have hoff := Nat.eq_of_beq_eq_true hoff
    split at h
    · cases h
    rename_i u hu
    split at h
    · cases h
    rename_i hc
    have hc := Nat.eq_of_beq_eq_true hc
    split at h
    · cases h
    rename_i us' hus
    cases h
    simp only [U.sizeL] at hl ⊢
    obtain ⟨y, hy⟩ := hf 0 f rfl
    obtain ⟨x, hx, hxo⟩ := ih hu hy
    obtain ⟨ts, hts, htso⟩ := fields_read ih (n := n) (xs := xs) fs (off + u.size) us' hus (fun i g hg => hf (i + 1) g (by simpa using hg)) (by omega)
    refine ⟨x :: ts, ?_, by unfold Tr.OkL; exact ⟨hxo, htso⟩⟩
    simp only [Tr.cellsL]
    rw [hx, hts, hoff, hc, List.take_add, List.drop_drop]

theorem reps_read {u : U} {n s : Nat} : ∀ {m : Nat} {cs : List Value}, cs.length = m * s → u.size = s → (∀ i, i < m → IsTr (Cx.of W) u ((cs.drop (i * s)).take s)) → ∃ ts : List Tr, Tr.cellsL ts = cs ∧ Tr.OkL (Cx.of W) (List.replicate m u) ts
  | 0, cs, hl, _, _ => by
    have : cs = [] := List.length_eq_zero_iff.1 (by simpa using hl)
    subst this
    exact ⟨[], rfl, by unfold Tr.OkL; trivial⟩
  | m + 1, cs, hl, hs, h => by
    obtain ⟨x, hx, hxo⟩ := h 0 (by omega)
    obtain ⟨ts, hts, htso⟩ := reps_read (n := n) (m := m) (cs := cs.drop s) (by rw [List.length_drop, hl, Nat.add_mul]; omega) hs (fun i hi => by
      have := h (i + 1) (by omega)
      rw [Nat.add_mul, Nat.one_mul, Nat.add_comm, ← List.drop_drop] at this
      exact this)
    refine ⟨x :: ts, ?_, by rw [List.replicate_succ]; unfold Tr.OkL; exact ⟨hxo, htso⟩⟩
    simp only [Tr.cellsL]
    rw [hx, hts]
    simp

theorem choose_list {α β : Type} {p : Nat → α → Prop} : ∀ {n : Nat}, (∀ i, i < n → ∃ x : α, p i x) → ∃ xs : List α, xs.length = n ∧ ∀ i (hi : i < xs.length), p i xs[i]
  | 0, _ => ⟨[], rfl, fun i hi => by simp at hi⟩
  | n + 1, h => by
    obtain ⟨xs, hl, hp⟩ := choose_list (β := β) (n := n) fun i hi => h i (by omega)
    obtain ⟨x, hx⟩ := h n (by omega)
    refine ⟨xs ++ [x], by simp [hl], fun i hi => ?_⟩
    by_cases h2 : i < xs.length
    · rw [List.getElem_append_left h2]; exact hp i h2
    · have : i = n := by simp at hi; omega
      subst this
      rw [List.getElem_append_right (by omega)]
      simpa using hx

theorem tr_read : ∀ {d fuel : Nat} {t : TypeId} {cs : List Value} {y : DataW H × List MemPlace} {u : U}, uOf P d t = some u → DataW.trod enc P W base spare held fuel t cs = some y → IsTr (Cx.of W) u cs
  | 0, _, _, _, _, _, h, _ => by cases h
  | d + 1, fuel, t, cs, y, u, h, hy => by
    unfold uOf at h
    split at h
    · rename_i k ht
      cases h
      obtain ⟨n, rfl, _, hw⟩ := DataW.trod_int ht hy
      exact ⟨.int k n, rfl, rfl, hw⟩
    · rename_i ht
      cases h
      obtain ⟨b, rfl, _⟩ := DataW.trod_bool ht hy
      exact ⟨.bool b, rfl, by unfold Tr.Ok; trivial⟩
    · rename_i ht
      cases h
      obtain ⟨s, rfl, _, hs⟩ := DataW.trod_string ht hy
      exact ⟨.str s, rfl, hs⟩
    · rename_i e ht
      split at h
      case h_2 => cases h
      rename_i ue hue
      split at h
      case h_2 => cases h
      rename_i hc
      simp only [Bool.and_eq_true] at hc
      have hpos : 0 < ue.size := Nat.blt_eq.mp hc.2
      have hc := Nat.eq_of_beq_eq_true hc.1
      cases h
      rcases DataW.trod_slice ht hy with ⟨rfl, _⟩ | ⟨a, len, cap, elems, rest, n, _, rfl, _, _, hlc, hcm, hel, helem, _, _⟩
      · refine ⟨.sl ⟨none, 0, 0⟩ [], rfl, ?_⟩
        unfold Tr.Ok
        exact ⟨⟨Wid.nil, rfl, fun h => absurd rfl h⟩, Nat.zero_le _, by unfold Tr.OkA; trivial⟩
      · obtain ⟨xs, hxl, hxs⟩ := choose_list (β := Unit) (p := fun i (x : Tr) => W.cells? base (a.add (i * P.cellsOf e)) (P.cellsOf e) = some x.cells ∧ x.Ok (Cx.of W) ue) (n := len) fun i hi => by
          have h1 := helem i hi
          rw [List.getElem?_eq_getElem (by omega)] at h1
          obtain ⟨ce, hce, hte⟩ := Option.bind_eq_some_iff.1 h1
          obtain ⟨x, rfl, hx⟩ := tr_read hue hte
          exact ⟨x, hce, hx⟩
        refine ⟨.sl ⟨some a, len, cap⟩ xs, rfl, ?_⟩
        unfold Tr.Ok
        have hwid : Wid ue.size (xs.map Tr.cells) := fun r hr => by
          obtain ⟨x, hx, rfl⟩ := List.mem_map.1 hr
          obtain ⟨i, hi, rfl⟩ := List.getElem_of_mem hx
          have := (cells?_cell (hxs i hi).1).1
          rw [this, hc]
        refine ⟨⟨hwid, by simp [hxl], fun hne => ?_⟩, by omega, Tr.okA_mk fun x hx => by obtain ⟨i, hi, rfl⟩ := List.getElem_of_mem hx; exact (hxs i hi).2⟩
        -- the block
        have h0 : 0 < xs.length := by
          have : 0 < (xs.map Tr.cells).length := List.length_pos_iff.2 hne
          simpa using this
        have hcell : ∀ i (hi : i < xs.length) j, j < ue.size → W.cell? ((a.add (i * ue.size)).add j) = (xs[i].cells)[j]? := fun i hi j hj => by
          have := (cells?_cell (hxs i hi).1).2 j (by rw [hc]; exact hj)
          rw [hc] at this; exact this
        have hxl0 : ∀ i (hi : i < xs.length), (xs[i].cells).length = ue.size := fun i hi => by rw [(cells?_cell (hxs i hi).1).1, hc]
        have hc0 := hcell 0 h0 0 (by omega)
        rw [List.getElem?_eq_getElem (by rw [hxl0 0 h0]; omega)] at hc0
        have hz0 : (a.add (0 * ue.size)).add 0 = a := by rw [Nat.zero_mul]; simp [Addr.add]
        rw [hz0] at hc0
        obtain ⟨hs, l, T, fr, hl, _⟩ := block_of_cell hc0
        refine ⟨a.block, a.off, l, T, fr, by cases a; simp_all, hl, fun i v hv => ?_⟩
        -- which row, which place
        have hlen := hwid.len
        rw [List.length_map] at hlen
        have hi : i < (xs.map Tr.cells).flatten.length := (List.getElem?_eq_some_iff.1 hv).1
        have hq : i / ue.size < xs.length := by
          rw [hlen] at hi; exact Nat.div_lt_of_lt_mul (by rwa [Nat.mul_comm])
        have hm : i % ue.size < ue.size := Nat.mod_lt _ (by omega)
        have hcc := hcell (i / ue.size) hq (i % ue.size) hm
        rw [add_add a _ _ hs, show i / ue.size * ue.size + i % ue.size = i by rw [Nat.mul_comm]; exact Nat.div_add_mod _ _] at hcc
        have e1 : (xs.map Tr.cells).flatten[i]? = (xs[i / ue.size].cells)[i % ue.size]? := by
          have h1 : i = i / ue.size * ue.size + i % ue.size := by rw [Nat.mul_comm]; exact (Nat.div_add_mod _ _).symm
          conv => lhs; rw [h1]
          rw [← List.getElem?_drop, hwid.drop_flat, List.drop_eq_getElem_cons (by simpa using hq), List.flatten_cons, List.getElem?_append_left (by rw [List.getElem_map, hxl0 _ hq]; exact hm), List.getElem_map]
        rw [← e1, hv] at hcc
        simp only [World.cell?, hl, Option.isSome_none, Bool.false_eq_true, if_false] at hcc
        exact hcc
    · rename_i fs ht
      split at h
      case h_2 => cases h
      rename_i us hus
      split at h
      case h_2 => cases h
      rename_i hc
      have hc := Nat.eq_of_beq_eq_true hc
      cases h
      obtain ⟨xs, n, _, _, hl, hxl, hf⟩ := DataW.trod_struct ht hy
      obtain ⟨ts, hts, hto⟩ := fields_read (d := d) (fun h h2 => tr_read h h2) (n := n) (cs := cs) (xs := xs) fs.toList 0 us hus (fun i f hfi => by
        have hfi2 : fs[i]? = some f := by simpa using hfi
        have hlt : i < xs.length := by rw [hxl]; exact (Array.getElem?_eq_some_iff.1 hfi2).1
        exact ⟨xs[i], by rw [hf i f hfi2]; exact List.getElem?_eq_getElem hlt⟩) (by omega)
      refine ⟨.st ts, ?_, by unfold Tr.Ok; exact hto⟩
      unfold Tr.cells
      rw [hts, List.drop_zero, List.take_of_length_le (by omega)]
    · rename_i m e ht
      split at h
      case h_2 => cases h
      rename_i ue hue
      split at h
      case h_2 => cases h
      rename_i hc
      simp only [Bool.and_eq_true] at hc
      have hc1 := Nat.eq_of_beq_eq_true hc.1
      have hc2 := Nat.eq_of_beq_eq_true hc.2
      cases h
      obtain ⟨xs, n, _, _, hl, hxl, hf⟩ := DataW.trod_array ht hy
      obtain ⟨ts, hts, hto⟩ := reps_read (n := n) (u := ue) (s := ue.size) (m := m) (cs := cs) (by rw [hl, hc2]) rfl (fun i hi => by
        have := hf i hi
        rw [hc1, List.getElem?_eq_getElem (by omega)] at this
        exact tr_read hue this)
      exact ⟨.st ts, by unfold Tr.cells; exact hts, by unfold Tr.Ok; exact hto⟩
    · cases h

/-- An argument. -/
theorem tr_arg {d : Nat} {t : TypeId} {v : Value} {dt : DataW H} {p : List MemPlace} {u : U} (hu : uOf P d t = some u) (h : DataW.Trod enc P W base spare held t v dt p) : IsTr (Cx.of W) u v.cells.toList := by
  obtain ⟨fuel, hf⟩ := h
  exact tr_read hu hf

theorem str_arg {r : Reach} {b0 d : Nat} {t : TypeId} {v : Value} {dt : DataW H} {p : List MemPlace} (ht : P.underlying t = some .string) (hu : uOf P d t = some .str) (hv : Value.okWide P W r b0 t v) (h : DataW.Trod enc P W base spare held t v dt p) :
    ∃ s, v = .string s ∧ s.size ≤ maxLen := by
  obtain ⟨s, rfl⟩ := okWide_string ht hv
  obtain ⟨x, hx, ho⟩ := tr_arg hu h
  cases x <;> simp only [Tr.Ok] at ho
  rename_i s'
  have : s' = s := by simpa [Tr.cells, Value.cells] using hx
  subst this
  exact ⟨_, rfl, ho⟩

/-- A slice, by its elements: each is of g's form. -/
theorem sl_form {α : Type} {R : Cx} {u : U} {s : Sl} {xs : List Tr} (g : α → List Value) (Q : α → Prop) (ho : Tr.Ok R (.sl u) (.sl s xs)) (h : ∀ x : Tr, x.Ok R u → ∃ e : α, x.cells = g e ∧ Q e) :
    ∃ es : List α, RoN u.size R s (es.map g) ∧ es.length ≤ maxLen ∧ ∀ e ∈ es, Q e := by
  unfold Tr.Ok at ho
  obtain ⟨h1, h2, h3⟩ := ho
  have key : ∀ l : List Tr, (∀ x ∈ l, x.Ok R u) → ∃ es : List α, l.map Tr.cells = es.map g ∧ es.length = l.length ∧ ∀ e ∈ es, Q e := fun l => by
    induction l with
    | nil => exact fun _ => ⟨[], rfl, rfl, fun _ h => by cases h⟩
    | cons x l ih =>
      intro hl
      obtain ⟨es, h1, h2, h3⟩ := ih fun y hy => hl y (List.mem_cons_of_mem _ hy)
      obtain ⟨e, he, hq⟩ := h x (hl x List.mem_cons_self)
      exact ⟨e :: es, by rw [List.map_cons, List.map_cons, he, h1], by simp [h2], fun y hy => by
        rcases List.mem_cons.1 hy with rfl | hy
        · exact hq
        · exact h3 y hy⟩
  obtain ⟨es, e1, e2, e3⟩ := key xs (Tr.okA h3)
  rw [e1] at h1
  exact ⟨es, h1, by omega, e3⟩

/-- One-cell elements. -/
theorem RoN.one {R : Cx} {s : Sl} {vs : List Value} (h : RoN 1 R s (vs.map fun v => [v])) (hb : vs.length ≤ maxLen) : Ro R s vs := by
  refine ⟨by have := h.len; simpa using this, by unfold maxLen at hb; omega, fun hne => ?_⟩
  obtain ⟨b, off, l, T, fr, h1, h2, h3⟩ := h.mem (by simpa using hne)
  refine ⟨b, off, l, T, fr, h1, h2, fun i v hv => h3 i v ?_⟩
  have : (vs.map fun v => [v]).flatten = vs := by
    clear h3 h hb hne hv
    induction vs with
    | nil => rfl
    | cons v vs ih => simp [ih]
  rw [this]; exact hv

/-- A slice of integers. -/
theorem ints_form {R : Cx} {k : IntKind} {s : Sl} {xs : List Tr} (ho : Tr.Ok R (.sl (.int k)) (.sl s xs)) : ∃ zs : List Int, Ro R s (zs.map (Value.int k)) ∧ zs.length ≤ maxLen ∧ ∀ z ∈ zs, (Lit.int k z).wf = true := by
  obtain ⟨zs, h1, h2, h3⟩ := sl_form (fun z : Int => [Value.int k z]) (fun z => (Lit.int k z).wf = true) ho fun x hx => by
    cases x <;> simp only [Tr.Ok] at hx
    rename_i k' z
    obtain ⟨rfl, hw⟩ := hx
    exact ⟨z, rfl, hw⟩
  refine ⟨zs, RoN.one ?_ (by simpa using h2), h2, h3⟩
  rw [List.map_map]
  exact h1

end
end Go.VC
/- Bytes given as an argument. No condition. -/
namespace Go.Proofs.Ytgfneeoponiibaa
open Go Go.VC Go.ChangeShapes Go.WideShapes Go.ChangeAt Go.RowKit

variable {H : Type} {enc : TypeId × Value → H} {W : World} {r : Reach} {b0 : Nat} {v : Value} {d : DataW H} {p : List MemPlace}

set_option maxRecDepth 100000 in
theorem bytes_in (hv : Value.okWide Try.prog W r b0 22 v) (h : DataW.Trod enc Try.prog W 0 (fun _ => true) true 22 v d p) :
    ∃ (s : Sl) (bs : List Int), v = .slice s.a s.len s.cap ∧ SlR (Cx.of W).m s (b8 bs) ∧ bs.length ≤ maxLen ∧ ∀ x ∈ bs, 0 ≤ x ∧ x < 256 := by
  obtain ⟨a, n, c, rfl⟩ := okWide_slice Try.underlying22 hv
  have hcap : n ≤ c := by
    simp only [Value.okWide, Try.underlying22, Cell.okWide, Cell.ok] at hv
    cases a with
    | none =>
      cases n with
      | zero => exact Nat.zero_le _
      | succ n => exact hv.elim
    | some a => exact hv.1
  obtain ⟨x, hx, ho⟩ := tr_arg (d := 6) (u := .sl (.int .u8)) (by kernel_rfl) h
  cases x <;> simp only [Tr.Ok] at ho
  rename_i s xs
  obtain ⟨bs, h1, h2, h3⟩ := ints_form (R := Cx.of W) (k := .u8) (s := s) (xs := xs) (show Tr.Ok _ (.sl (.int .u8)) (.sl s xs) by unfold Tr.Ok; exact ho)
  have e : [Value.slice s.a s.len s.cap] = [Value.slice a n c] := by simpa [Tr.cells, Value.cells] using hx
  have e := (List.cons.inj e).1
  simp only [Value.slice.injEq] at e
  obtain ⟨rfl, rfl, rfl⟩ := e
  refine ⟨s, bs, rfl, ⟨h1.len, hcap, h1.mem⟩, h2, fun z hz => ?_⟩
  have := h3 z hz
  simp [Lit.wf, IntKind.min, IntKind.max, IntKind.bits, IntKind.signed] at this
  omega

end Go.Proofs.Ytgfneeoponiibaa
/- Arguments of KeepParts, read. No condition. -/
namespace Go.Proofs.Ytgfneeoponiibaa
open Go Go.VC Go.ChangeShapes Go.WideShapes Go.ChangeAt Go.RowKit

theorem pair_form {R : Cx} {x : Tr} (h : x.Ok R (.st [.int .i64, .int .i64])) : ∃ e : Int × Int, x.cells = rowP e ∧ (e.1 < 9223372036854775808 ∧ e.2 < 9223372036854775808) := by
  cases x <;> simp only [Tr.Ok] at h
  rename_i xs
  match xs, h with
  | [x0, x1], h =>
    simp only [Tr.OkL, and_true] at h
    obtain ⟨h0, h1⟩ := h
    cases x0 <;> simp only [Tr.Ok] at h0
    cases x1 <;> simp only [Tr.Ok] at h1
    rename_i k0 n0 k1 n1
    obtain ⟨rfl, w0⟩ := h0
    obtain ⟨rfl, w1⟩ := h1
    refine ⟨(n0, n1), rfl, ?_, ?_⟩
    · simp [Lit.wf, IntKind.min, IntKind.max, IntKind.bits, IntKind.signed] at w0; simp only; omega
    · simp [Lit.wf, IntKind.min, IntKind.max, IntKind.bits, IntKind.signed] at w1; simp only; omega

theorem piece_form {R : Cx} {x : Tr} (h : x.Ok R (.sl (.int .u8))) : ∃ e : Sl × List Int, x.cells = [e.1.v] ∧ Ro R e.1 (b8 e.2) := by
  cases x <;> simp only [Tr.Ok] at h
  rename_i s xs
  obtain ⟨bl, hb1, hb2, hb3⟩ := ints_form (R := R) (k := .u8) (s := s) (xs := xs) (by unfold Tr.Ok; exact h)
  exact ⟨(s, bl), rfl, hb1⟩

variable {H : Type} {enc : TypeId × Value → H} {W : World} {r : Reach} {b0 : Nat} {v : Value} {d : DataW H} {p : List MemPlace}

set_option maxRecDepth 100000 in
theorem pairs_in (hv : Value.okWide Try.prog W r b0 23 v) (h : DataW.Trod enc Try.prog W 0 (fun _ => true) true 23 v d p) :
    ∃ (l : Sl) (E : List (Int × Int)), v = .slice l.a l.len l.cap ∧ RoN 2 (Cx.of W) l (E.map rowP) ∧ ∀ e ∈ E, e.1 < 9223372036854775808 ∧ e.2 < 9223372036854775808 := by
  obtain ⟨a, n, c, rfl⟩ := okWide_slice Try.underlying23 hv
  obtain ⟨x, hx, ho⟩ := tr_arg (d := 6) (u := .sl (.st [.int .i64, .int .i64])) (by kernel_rfl) h
  cases x <;> simp only [Tr.Ok] at ho
  rename_i s xs
  obtain ⟨E, h1, _, h3⟩ := sl_form rowP (fun e => e.1 < 9223372036854775808 ∧ e.2 < 9223372036854775808) (show Tr.Ok (Cx.of W) (.sl _) (.sl s xs) by unfold Tr.Ok; exact ho) fun x hx => pair_form hx
  refine ⟨s, E, ?_, h1, h3⟩
  have : [Value.slice s.a s.len s.cap] = [Value.slice a n c] := by simpa [Tr.cells, Value.cells] using hx
  exact (List.cons.inj this).1.symm

set_option maxRecDepth 100000 in
theorem pieces_in (hv : Value.okWide Try.prog W r b0 24 v) (h : DataW.Trod enc Try.prog W 0 (fun _ => true) true 24 v d p) :
    ∃ (m : Sl) (ps : List (Sl × List Int)), v = .slice m.a m.len m.cap ∧ Ro (Cx.of W) m ((ps.map (·.1)).map Sl.v) ∧ ∀ e ∈ ps, Ro (Cx.of W) e.1 (b8 e.2) := by
  obtain ⟨a, n, c, rfl⟩ := okWide_slice Try.underlying24 hv
  obtain ⟨x, hx, ho⟩ := tr_arg (d := 6) (u := .sl (.sl (.int .u8))) (by kernel_rfl) h
  cases x <;> simp only [Tr.Ok] at ho
  rename_i s xs
  obtain ⟨ps, h1, h2, h3⟩ := sl_form (fun e : Sl × List Int => [e.1.v]) (fun e => Ro (Cx.of W) e.1 (b8 e.2)) (show Tr.Ok (Cx.of W) (.sl (.sl (.int .u8))) (.sl s xs) by unfold Tr.Ok; exact ho) fun x hx => piece_form hx
  have h1 : RoN 1 (Cx.of W) s (((ps.map (·.1)).map Sl.v).map fun v => [v]) := by rw [List.map_map, List.map_map]; exact h1
  refine ⟨s, ps, ?_, h1.one (by simpa using h2), h3⟩
  have : [Value.slice s.a s.len s.cap] = [Value.slice a n c] := by simpa [Tr.cells, Value.cells] using hx
  exact (List.cons.inj this).1.symm

end Go.Proofs.Ytgfneeoponiibaa
