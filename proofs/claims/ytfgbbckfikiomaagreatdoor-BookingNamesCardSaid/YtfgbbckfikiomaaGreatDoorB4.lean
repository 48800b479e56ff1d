/- Reference 15: New, Take, Give, Seat, Unseat, Auto. Condition: bounds. -/
import Derived.Test.YtfgbbckfikiomaaGreatDoorB3
import Derived.Test.YtfgbbckfikiomaaGreatDoorB2
namespace Go.Proofs.YtfgbbckfikiomaaGreatDoor
set_option linter.unusedVariables false
open Go Go.VC
variable {R R' : Cx} {Hs Rest : List HP} {w : World}
section
variable {γ : Type} (f : Hold × Sl → γ)
theorem zipm_ins (h : Hold) (t : Sl) : ∀ (k : Nat) (L : List Hold) (ts : List Sl), ts.length = L.length → k ≤ L.length → ((L.take k ++ h :: L.drop k).zip (ts.take k ++ t :: ts.drop k)).map f = ((L.zip ts).map f).take k ++ f (h, t) :: ((L.zip ts).map f).drop k
  | 0, L, ts, _, _ => by simp
  | k + 1, [], ts, _, hk => by simp at hk
  | k + 1, x :: L, [], hl, _ => by simp at hl
  | k + 1, x :: L, y :: ts, hl, hk => by
    have ih := zipm_ins h t k L ts (by simpa using hl) (by simpa using hk)
    simp only [List.take_succ_cons, List.drop_succ_cons, List.cons_append, List.zip_cons_cons, List.map_cons, ih]
theorem zipm_del : ∀ (k : Nat) (L : List Hold) (ts : List Sl), ts.length = L.length → k < L.length → ((L.take k ++ L.drop (k + 1)).zip (ts.take k ++ ts.drop (k + 1))).map f = ((L.zip ts).map f).take k ++ ((L.zip ts).map f).drop (k + 1)
  | k, [], ts, _, hk => by simp at hk
  | k, x :: L, [], hl, _ => by simp at hl
  | 0, x :: L, y :: ts, _, _ => by simp
  | k + 1, x :: L, y :: ts, hl, hk => by
    have ih := zipm_del k L ts (by simpa using hl) (by simpa using hk)
    simp only [List.take_succ_cons, List.drop_succ_cons, List.cons_append, List.zip_cons_cons, List.map_cons, ih]
theorem zipm_set (h : Hold) (t : Sl) : ∀ (k : Nat) (L : List Hold) (ts : List Sl), ((L.set k h).zip (ts.set k t)) = (L.zip ts).set k (h, t)
  | k, [], ts => by simp
  | k, x :: L, [] => by simp
  | 0, x :: L, y :: ts => by simp
  | k + 1, x :: L, y :: ts => by
    have ih := zipm_set h t k L ts
    simp only [List.set_cons_succ, List.zip_cons_cons, ih]
end
theorem SeatsAt.ins {L : List Hold} {ts : List Sl} {k : Nat} {h : Hold} {t : Sl} (hl : ts.length = L.length) (hk : k ≤ L.length) (hw : Sat R (Reads t (intsI h.seats) :: SeatsAt L ts :: Hs) w) : Sat R (SeatsAt (L.take k ++ h :: L.drop k) (ts.take k ++ t :: ts.drop k) :: Hs) w := by
  refine Sat.star.2 ?_
  rw [show seatsH (L.take k ++ h :: L.drop k) (ts.take k ++ t :: ts.drop k) = (seatsH L ts).take k ++ Reads t (intsI h.seats) :: (seatsH L ts).drop k from zipm_ins (fun x => Reads x.2 (intsI x.1.seats)) h t k L ts hl hk]
  have hw : Sat R (Reads t (intsI h.seats) :: (seatsH L ts ++ Hs)) w := hw.cons fun _ h => Sat.star.1 h
  refine hw.perm ?_
  rw [List.append_assoc, List.cons_append]
  refine (List.Perm.trans ?_ List.perm_middle.symm)
  rw [← List.append_assoc, List.take_append_drop]
theorem SeatsAt.pick {L : List Hold} {ts : List Sl} {k : Nat} (hk : k < L.length) (hk' : k < ts.length) (hw : Sat R (SeatsAt L ts :: Hs) w) : Sat R (Reads ts[k] (intsI L[k].seats) :: ((seatsH L ts).take k ++ (seatsH L ts).drop (k + 1) ++ Hs)) w := by
  have hw := Sat.star.1 hw
  have hlt : k < (seatsH L ts).length := by simp [seatsH]; omega
  have e : seatsH L ts = (seatsH L ts).take k ++ Reads ts[k] (intsI L[k].seats) :: (seatsH L ts).drop (k + 1) := by
    have h1 : (seatsH L ts)[k] = Reads ts[k] (intsI L[k].seats) := by simp [seatsH]
    rw [← h1, ← List.drop_eq_getElem_cons hlt, List.take_append_drop]
  rw [e, List.append_assoc, List.cons_append] at hw
  rw [List.append_assoc]
  exact hw.perm List.perm_middle
theorem SeatsAt.del {L : List Hold} {ts : List Sl} {k : Nat} (hl : ts.length = L.length) (hk : k < L.length) (hw : Sat R (SeatsAt L ts :: Hs) w) : Sat R (SeatsAt (L.take k ++ L.drop (k + 1)) (ts.take k ++ ts.drop (k + 1)) :: Hs) w := by
  have hw := (SeatsAt.pick hk (by omega) hw).drop
  refine Sat.star.2 ?_
  rw [show seatsH (L.take k ++ L.drop (k + 1)) (ts.take k ++ ts.drop (k + 1)) = (seatsH L ts).take k ++ (seatsH L ts).drop (k + 1) from zipm_del (fun x => Reads x.2 (intsI x.1.seats)) k L ts hl hk]
  exact hw
theorem SeatsAt.set {L : List Hold} {ts : List Sl} {k : Nat} {h : Hold} {t : Sl} (hl : ts.length = L.length) (hk : k < L.length) (hw : Sat R (Reads t (intsI h.seats) :: SeatsAt L ts :: Hs) w) : Sat R (SeatsAt (L.set k h) (ts.set k t) :: Hs) w := by
  have hw : Sat R (Reads t (intsI h.seats) :: ((seatsH L ts).take k ++ (seatsH L ts).drop (k + 1) ++ Hs)) w := hw.cons fun _ h5 => (SeatsAt.pick hk (by omega) h5).drop
  refine Sat.star.2 ?_
  have hlt : k < (seatsH L ts).length := by simp [seatsH]; omega
  rw [show seatsH (L.set k h) (ts.set k t) = (seatsH L ts).take k ++ Reads t (intsI h.seats) :: (seatsH L ts).drop (k + 1) by
    unfold seatsH at hlt ⊢
    rw [zipm_set, List.map_set, List.set_eq_take_append_cons_drop, if_pos hlt]]
  refine hw.perm ?_
  rw [List.append_assoc, List.append_assoc, List.cons_append]
  exact List.perm_middle.symm
theorem RfR.row {A C : List Hold} {hd : Hold} {r : RF} {sg sl s : Sl} {ts : List Sl} (h : RfR R r sg sl s ts) (hL : r.L = A ++ hd :: C) : ∃ (t : Sl) (ht : A.length < ts.length), ts[A.length] = t ∧ SlR R.m t (intsI hd.seats) ∧
    ∀ {S : World → Prop} {Hs : List HP} {i : Nat} {v : Value}, (∀ w, S w → Sat R Hs w) → (rowH hd t)[i]? = some v → ∀ {F : Addr → Prop}, (∀ a : Addr, a.spot = none → At S ⟨(a.add (mulS A.length 4)).block, (a.add (mulS A.length 4)).off + i, none⟩ [v] → F a) → Rng (A.length : Int) s.len (NilP s.a F) := by
  have hl := h.hs.len
  have i1 : A.length < r.L.length := by rw [hL]; simp
  have i2 : A.length < ts.length := by omega
  have hgi : r.L[A.length] = hd := by simp [hL]
  have hsd := h.hs.seats A.length i1 i2
  rw [hgi] at hsd
  exact ⟨_, i2, rfl, hsd, fun {S Hs i v} hS hv {F} f => h.hs.fld hS i1 i2 (by rw [hgi]; exact hv) f⟩
end Go.Proofs.YtfgbbckfikiomaaGreatDoor
/- A flight: Encode. Condition: bounds on lengths. -/
namespace Go.Proofs.YtfgbbckfikiomaaGreatDoor
set_option linter.unusedVariables false
open Go Go.VC
variable {R : Cx} {Hs Rest : List HP} {w : World}
theorem HsR.row {s : Sl} {L : List Hold} {ts : List Sl} {S : World → Prop} {k : Nat} (hr : HsR R s L ts) (hS : ∀ w, S w → Sat R Hs w) (hk : k < L.length) (hk' : k < ts.length) {F : Addr → Prop}
    (f : ∀ a : Addr, At S (Addr.add a (mulS k 4)) (rowH L[k] ts[k]) → F a) : Rng (k : Int) s.len (NilP s.a F) := by
  have hl := rowsH_len hr.len
  refine (hr.rows.reads hS).rng (k := k) (by omega) fun b off ha hat => f _ ?_
  rw [elt_addr0]
  refine hat 0 _ ?_
  rw [rowsH_at hk hk']
  exact ⟨rfl, rfl, rfl, rfl, trivial⟩
structure FSmall (f : PF) : Prop where
  num : 0 ≤ f.num ∧ f.num < 9223372036854775808
  rows : 0 ≤ f.rows ∧ f.rows < 9223372036854775808
  grps : small f.grps
  lims : small f.lims
  gl : f.grps.length ≤ 1000
  ll : f.lims.length ≤ 1000
  hs : ∀ h ∈ holdsF f, HSmall h
  hl : f.hs.length ≤ 10000
end Go.Proofs.YtfgbbckfikiomaaGreatDoor
/- A flight out of bytes: reading numbers and lists; a hold put in again. Condition: bounds on lengths. -/
namespace Go.Proofs.YtfgbbckfikiomaaGreatDoor
set_option linter.unusedVariables false
open Go Go.VC
variable {R : Cx} {Hs Rest : List HP} {w : World}
def nMany : Nat → Int → Rd → List Int × Rd
  | 0, _, r => ([], r)
  | k + 1, most, r => ((rdNum most r).1 :: (nMany k most (rdNum most r).2).1, (nMany k most (rdNum most r).2).2)
theorem nMany_len : ∀ (k : Nat) (most : Int) (r : Rd), (nMany k most r).1.length = k
  | 0, _, _ => rfl
  | k + 1, most, r => by show (_ :: (nMany k most (rdNum most r).2).1).length = _; rw [List.length_cons, nMany_len k]
theorem nMany_bd : ∀ (k : Nat) (most : Int) {r : Rd}, (∀ x ∈ r.bs, 0 ≤ x ∧ x < 256) → ∀ x ∈ (nMany k most r).2.bs, 0 ≤ x ∧ x < 256
  | 0, _, _, h => h
  | k + 1, most, _, h => nMany_bd k most (rdNum_bd h)
theorem nMany_val : ∀ (k : Nat) {most : Int} {r : Rd}, 0 ≤ most → (∀ x ∈ r.bs, 0 ≤ x ∧ x < 256) → ∀ x ∈ (nMany k most r).1, 0 ≤ x ∧ x ≤ most
  | 0, _, _, _, _ => by simp [nMany]
  | k + 1, most, r, hm, h => fun x hx => by
    rcases List.mem_cons.1 hx with rfl | hx
    · exact rdNum_val h hm
    · exact nMany_val k hm (rdNum_bd h) x hx
def nList (most each : Int) (r : Rd) : List Int × Rd := nMany (rdNum most r).1.toNat each (rdNum most r).2
theorem nList_bd {most each : Int} {r : Rd} (h : ∀ x ∈ r.bs, 0 ≤ x ∧ x < 256) : ∀ x ∈ (nList most each r).2.bs, 0 ≤ x ∧ x < 256 := nMany_bd _ _ (rdNum_bd h)
theorem nList_val {most each : Int} {r : Rd} (h : ∀ x ∈ r.bs, 0 ≤ x ∧ x < 256) (hm : 0 ≤ most) (he : 0 ≤ each) : (∀ x ∈ (nList most each r).1, 0 ≤ x ∧ x ≤ each) ∧ ((nList most each r).1.length : Int) ≤ most := by
  refine ⟨nMany_val _ he (rdNum_bd h), ?_⟩
  unfold nList
  rw [nMany_len]
  have := rdNum_val h hm
  omega
def tellF (f : PF) (o n : Int) : PF :=
  match getM o f.hs with
  | none => f
  | some h => { f with hs := setM o (h.put n) f.hs, own := putM n h.owner f.own }
def resGo (o N : Int) : List Int → Int → PF → PF × Bool
  | [], _, f => (f, true)
  | n :: l, last, f => if (getM n f.own).isSome then (f, false) else if n ≤ last then (f, false) else if n ≥ N then (f, false) else resGo o N l n (tellF f o n)
theorem resGo_cons (o N n last : Int) (l : List Int) (f : PF) : resGo o N (n :: l) last f = if (getM n f.own).isSome then (f, false) else if n ≤ last then (f, false) else if n ≥ N then (f, false) else resGo o N l n (tellF f o n) := rfl
def restoreF (f : PF) (h : Hold) : PF × Bool :=
  if (takeF f h.owner h.cls h.many).2 ≠ 0 then ((takeF f h.owner h.cls h.many).1, false)
  else if (h.seats.length : Int) > h.many then ((takeF f h.owner h.cls h.many).1, false)
  else resGo h.owner (layN f.rows f.grps) h.seats (-1) (takeF f h.owner h.cls h.many).1
end Go.Proofs.YtfgbbckfikiomaaGreatDoor
/- A flight: Decode. Condition: bounds on lengths. -/
namespace Go.Proofs.YtfgbbckfikiomaaGreatDoor
set_option linter.unusedVariables false
open Go Go.VC
variable {R : Cx} {Hs Rest : List HP} {w : World}
def readH (rd : Rd) : Hold × Rd :=
  (⟨(rdNum 28629151 rd).1, (rdNum 8 (rdNum 28629151 rd).2).1, (rdNum 600 (rdNum 8 (rdNum 28629151 rd).2).2).1, (nList 600 600 (rdNum 600 (rdNum 8 (rdNum 28629151 rd).2).2).2).1⟩, (nList 600 600 (rdNum 600 (rdNum 8 (rdNum 28629151 rd).2).2).2).2)
def readHs : Nat → Rd → List Hold × Rd
  | 0, rd => ([], rd)
  | k + 1, rd => ((readH rd).1 :: (readHs k (readH rd).2).1, (readHs k (readH rd).2).2)
theorem readH_bd {rd : Rd} (h : ∀ x ∈ rd.bs, 0 ≤ x ∧ x < 256) : ∀ x ∈ (readH rd).2.bs, 0 ≤ x ∧ x < 256 := nList_bd (rdNum_bd (rdNum_bd (rdNum_bd h)))
structure HoldIn (h : Hold) : Prop where
  o : 0 ≤ h.owner ∧ h.owner ≤ 28629151
  c : 0 ≤ h.cls ∧ h.cls ≤ 8
  m : 0 ≤ h.many ∧ h.many ≤ 600
  s : ∀ x ∈ h.seats, 0 ≤ x ∧ x ≤ 600
  n : h.seats.length ≤ 600
theorem readH_val {rd : Rd} (h : ∀ x ∈ rd.bs, 0 ≤ x ∧ x < 256) : HoldIn (readH rd).1 := by
  have h1 := rdNum_bd (most := 28629151) h
  have h2 := rdNum_bd (most := 8) h1
  have h3 := rdNum_bd (most := 600) h2
  have hl := nList_val (most := 600) (each := 600) h3 (by omega) (by omega)
  exact ⟨rdNum_val h (by omega), rdNum_val h1 (by omega), rdNum_val h2 (by omega), hl.1, by have := hl.2; show (nList _ _ _).1.length ≤ 600; omega⟩
theorem readHs_val : ∀ (k : Nat) {rd : Rd}, (∀ x ∈ rd.bs, 0 ≤ x ∧ x < 256) → (∀ h ∈ (readHs k rd).1, HoldIn h) ∧ (readHs k rd).1.length = k
  | 0, _, _ => ⟨fun h hh => (by cases hh), rfl⟩
  | k + 1, rd, h => by
    obtain ⟨h1, h2⟩ := readHs_val k (readH_bd h)
    refine ⟨fun x hx => ?_, by show ((readH rd).1 :: _).length = _; rw [List.length_cons, h2]⟩
    have hx : x ∈ (readH rd).1 :: (readHs k (readH rd).2).1 := hx
    rcases List.mem_cons.1 hx with rfl | hx
    · exact readH_val h
    · exact h1 x hx
abbrev PS := PF × Bool × Int
def stepD (x : PS) (h : Hold) : PS := if x.2.1 = true ∧ h.owner > x.2.2 then ((restoreF x.1 h).1, (restoreF x.1 h).2, h.owner) else (x.1, false, h.owner)
def fine0 (num rows : Int) (grps lims : List Int) : Bool := decide (num > 0) && (layOk rows grps && (nestOk lims (List.replicate lims.length 0) && (lims.getD 0 0 == layN rows grps)))
structure Raw where
  num : Int
  rows : Int
  grps : List Int
  lims : List Int
  L : List Hold
  rd : Rd
def rawD (bs : List Int) : Raw :=
  let a := rdNum 9999 ⟨bs, false⟩
  let b := rdNum 60 a.2
  let g := nList 4 10 b.2
  let l := nList 8 10000 g.2
  let n := rdNum 600 l.2
  let x := readHs n.1.toNat n.2
  ⟨a.1, b.1, g.1, l.1, x.1, x.2⟩
def Raw.run (x : Raw) : PS := x.L.foldl stepD (emptyF x.num x.rows x.grps x.lims, fine0 x.num x.rows x.grps x.lims, 0)
def decF (bs : List Int) : Option PF := if rdWhole (rawD bs).rd = true ∧ (rawD bs).run.2.1 = true then some (rawD bs).run.1 else none
structure KeepF (f f' : PF) : Prop where
  lims : f'.lims = f.lims
  grps : f'.grps = f.grps
  rows : f'.rows = f.rows
  num : f'.num = f.num
  sold : f'.sold.length = f.sold.length
theorem KeepF.refl (f : PF) : KeepF f f := ⟨rfl, rfl, rfl, rfl, rfl⟩
theorem KeepF.trans {f f' f'' : PF} (a : KeepF f f') (b : KeepF f' f'') : KeepF f f'' := ⟨b.lims.trans a.lims, b.grps.trans a.grps, b.rows.trans a.rows, b.num.trans a.num, b.sold.trans a.sold⟩
end Go.Proofs.YtfgbbckfikiomaaGreatDoor
/- Reference 15: Encode, list, may, Decode. Condition: bounds. -/
namespace Go.Proofs.YtfgbbckfikiomaaGreatDoor
set_option linter.unusedVariables false
open Go Go.VC
variable {R R' : Cx} {Hs Rest : List HP} {w : World}
theorem numsB_one (x : Int) (l : List Int) : numsB (x :: l) = numsB [x] ++ numsB l := by rw [show x :: l = [x] ++ l from rfl, numsB_app]
def rencB (r : RF) : List Int := encB r.num r.rows r.grps r.lims r.L
structure RSmall (r : RF) : Prop where
  num : 0 ≤ r.num ∧ r.num < 9223372036854775808
  rows : 0 ≤ r.rows ∧ r.rows < 9223372036854775808
  grps : small r.grps
  lims : small r.lims
  gl : r.grps.length ≤ 1000
  ll : r.lims.length ≤ 1000
  hs : ∀ h ∈ r.L, HSmall h
  hl : r.L.length ≤ 10000
end Go.Proofs.YtfgbbckfikiomaaGreatDoor
/- Reference 15: list, may, Decode. Condition: bounds. -/
namespace Go.Proofs.YtfgbbckfikiomaaGreatDoor
set_option linter.unusedVariables false
open Go Go.VC
variable {R R' : Cx} {Hs Rest : List HP} {w : World}
structure OkAt (r : RF) (j : Nat) (hj : j < r.L.length) : Prop where
  o : 1 ≤ r.L[j].owner
  p : ∀ h : 0 < j, r.L[j - 1].owner < r.L[j].owner
  c : r.L[j].cls < r.lims.length
  m : 1 ≤ r.L[j].many
  n : (r.L[j].seats.length : Int) ≤ r.L[j].many
  s : ∀ k (hk : k < r.L[j].seats.length), r.L[j].seats[k] ∉ takenL (r.L.take j) ++ r.L[j].seats.take k ∧ r.L[j].seats[k] < layN r.rows r.grps ∧ ∀ h : 0 < k, r.L[j].seats[k - 1] < r.L[j].seats[k]
structure MayP (r : RF) : Prop where
  num : 1 ≤ r.num
  lay : layOk r.rows r.grps = true
  lim : limOk r.lims = true
  l0 : r.lims.getD 0 0 = layN r.rows r.grps
  each : ∀ j (hj : j < r.L.length), OkAt r j hj
  nest : nestOk r.lims r.sold = true
structure RIn (r : RF) : Prop where
  gl : r.grps.length ≤ 1000
  ll : r.lims.length ≤ 1000
  hl : r.L.length ≤ 1000
  hs : ∀ h ∈ r.L, HoldIn h
end Go.Proofs.YtfgbbckfikiomaaGreatDoor
/- Reference 15: Decode. Condition: bounds. -/
namespace Go.Proofs.YtfgbbckfikiomaaGreatDoor
set_option linter.unusedVariables false
open Go Go.VC
variable {R R' : Cx} {Hs Rest : List HP} {w : World}
def Raw.rf (x : Raw) : RF := ⟨x.num, x.rows, x.grps, x.lims, x.L⟩
end Go.Proofs.YtfgbbckfikiomaaGreatDoor
/- A flight, plain: which bytes are one, by the program and by the document. Condition: none. -/
namespace Go.Proofs.YtfgbbckfikiomaaGreatDoor
set_option linter.unusedVariables false
open Go Go.VC
theorem nest_sell_iff {lim sold : List Int} {c many : Int} (hn : nestOk lim sold = true) (c0 : 0 ≤ c) (c1 : c < lim.length) (m0 : 1 ≤ many) (m1 : many ≤ 10000) (h : nestOk lim (sold.set c.toNat (sold.getD c.toNat 0 + many)) = true) : (sellT lim sold c many).2 = 0 := by
  obtain ⟨i1, i2, i3⟩ := nestOk_iff.1 hn
  obtain ⟨_, _, k3⟩ := nestOk_iff.1 h
  have hl : leftT lim sold c = (mnF (roomF lim sold) (c.toNat + 1), 0) := by unfold leftT; rw [if_pos ⟨hn, c0, c1⟩]
  have hm := mnF_is (roomF lim sold) (c.toNat + 1)
  have hle : many ≤ mnF (roomF lim sold) (c.toNat + 1) := by
    rcases hm.2.2 with e | ⟨k, _, hk, e⟩
    · omega
    · rw [e]
      have hf := fromN_add (sold := sold) (c := c.toNat) (m := many) (by omega) (lim.length - k) k (by omega)
      rw [if_pos (by omega)] at hf
      have := (k3 k (by omega)).2
      unfold roomF
      omega
  unfold sellT
  rw [hl]
  dsimp only
  rw [if_neg (by omega), if_neg (by omega)]
variable {f : PF} {r : RF}
theorem tie_tell {A C : List Hold} {h : Hold} {n : Int} (t : Tie f r) (g : Good r) (hL : r.L = A ++ h :: C) (hA : getO h.owner A = none) (h4 : n ∉ takenL r.L) (hb : 0 ≤ n ∧ n < layN r.rows r.grps) (hm : (h.seats.length : Int) < h.many) :
    Tie (tellF f h.owner n) { r with L := A ++ h.put n :: C } ∧ Good { r with L := A ++ h.put n :: C } := by
  have hh := g.each h (by rw [hL]; simp)
  have hg : getM h.owner f.hs = some h := by rw [t.get g.rise, hL]; exact getO_app rfl hA
  have e : tellF f h.owner n = { f with hs := setM h.owner (h.put n) f.hs, own := putM n h.owner f.own } := by unfold tellF; rw [hg]
  rw [e]
  have hnh : n ∉ h.seats := fun e => h4 (mem_taken.2 ⟨h, by rw [hL]; simp, e⟩)
  have hs : ∀ x ∈ (h.put n).seats, x ∈ h.seats ∨ (x ∉ takenL r.L ∧ 0 ≤ x ∧ x < layN r.rows r.grps) := fun x hx => by
    rcases mem_insS.1 hx with rfl | hx
    · exact .inr ⟨h4, hb⟩
    · exact .inl hx
  refine ⟨tie_set (h' := h.put n) t g hL hA rfl rfl rfl (fun x hx => (hs x hx).imp id (·.1)) (putM_nodup t.nod) fun x => ?_, good_set (h' := h.put n) g hL rfl rfl rfl ?_ ?_ hs⟩
  · rw [getM_putM]
    show _ = if x ∈ insS n h.seats then some h.owner else _
    by_cases hx : x = n
    · rw [if_pos hx, if_pos (mem_insS.2 (.inl hx))]
    · rw [if_neg hx]
      by_cases hx2 : x ∈ h.seats
      · rw [if_pos (mem_insS.2 (.inr hx2))]
        exact (t.own x h.owner).2 ⟨h, by rw [hL]; simp, rfl, hx2⟩
      · rw [if_neg (fun e => (mem_insS.1 e).elim hx hx2), if_neg hx2]
  · exact rise_iff.2 (insS_pw (rise_iff.1 hh.rise) hnh)
  · show ((insS n h.seats).length : Int) ≤ _
    rw [insS_len]; omega
def SOk (N : Int) (T : List Int) : List Int → Int → Prop
  | [], _ => True
  | n :: l, last => n ∉ T ∧ last < n ∧ n < N ∧ SOk N T l n
theorem takenL_snoc (P : List Hold) (h : Hold) : takenL (P ++ [h]) = takenL P ++ h.seats := by simp [takenL]
theorem tie_res {P : List Hold} {h : Hold} : ∀ (l acc : List Int) (last : Int) {f : PF} {r : RF}, Tie f r → Good r → r.L = P ++ [{ h with seats := acc }] → (acc.length + l.length : Int) ≤ h.many → (∀ x ∈ acc, x ≤ last) → -1 ≤ last →
    ((resGo h.owner (layN r.rows r.grps) l last f).2 = true ↔ SOk (layN r.rows r.grps) (takenL P) l last) ∧
    ((resGo h.owner (layN r.rows r.grps) l last f).2 = true → Tie (resGo h.owner (layN r.rows r.grps) l last f).1 { r with L := P ++ [{ h with seats := acc ++ l }] } ∧ Good { r with L := P ++ [{ h with seats := acc ++ l }] })
  | [], acc, last, f, r, t, g, hL, _, _, _ => by
    refine ⟨⟨fun _ => trivial, fun _ => rfl⟩, fun _ => ?_⟩
    rw [List.append_nil, ← hL]
    exact ⟨t, g⟩
  | n :: l, acc, last, f, r, t, g, hL, hm, hacc, hlast => by
    rw [resGo_cons]
    have hown : getO h.owner P = none := by
      have h5 := g.rise
      rw [hL] at h5
      refine getO_none.2 fun x hx e => ?_
      have := (List.pairwise_append.1 h5).2.2 x hx _ (List.mem_singleton.2 rfl)
      dsimp only at this
      omega
    have htk : takenL r.L = takenL P ++ acc := by rw [hL, takenL_snoc]
    rw [List.length_cons] at hm
    show _ ∧ _
    by_cases h1 : (getM n f.own).isSome = true
    · rw [if_pos h1]
      refine ⟨⟨fun e => (by cases e), fun e => ?_⟩, fun e => by cases e⟩
      have h2 := (t.taken n).1 h1
      rw [htk] at h2
      rcases List.mem_append.1 h2 with h2 | h2
      · exact absurd h2 e.1
      · have := hacc n h2; have := e.2.1; omega
    rw [if_neg h1]
    have hnt : n ∉ takenL r.L := fun e => h1 ((t.taken n).2 e)
    by_cases h2 : n ≤ last
    · rw [if_pos h2]
      exact ⟨⟨fun e => (by cases e), fun e => by have := e.2.1; omega⟩, fun e => by cases e⟩
    rw [if_neg h2]
    by_cases h3 : n ≥ layN r.rows r.grps
    · rw [if_pos h3]
      exact ⟨⟨fun e => (by cases e), fun e => by have := e.2.2.1; omega⟩, fun e => by cases e⟩
    rw [if_neg h3]
    have hsp : r.L = P ++ { h with seats := acc } :: [] := hL
    have hins : insS n acc = acc ++ [n] := insS_end fun x hx => by have := hacc x hx; omega
    obtain ⟨t2, g2⟩ := tie_tell (h := { h with seats := acc }) t g hsp hown hnt ⟨by omega, by omega⟩ (by show (acc.length : Int) < h.many; omega)
    have e2 : (Hold.put { h with seats := acc } n) = { h with seats := acc ++ [n] } := by unfold Hold.put; rw [hins]
    rw [e2] at t2 g2
    have ih := tie_res l (acc ++ [n]) n t2 g2 rfl (by rw [List.length_append]; simp; omega) (fun x hx => by
      rcases List.mem_append.1 hx with hx | hx
      · have := hacc x hx; omega
      · rw [List.mem_singleton.1 hx]; exact Int.le_refl _) (by omega)
    refine ⟨ih.1.trans ⟨fun e => ⟨fun hn => hnt (by rw [htk]; exact List.mem_append_left _ hn), by omega, by omega, e⟩, fun e => e.2.2.2⟩, fun e => ?_⟩
    have h7 := ih.2 e
    rw [List.append_assoc] at h7
    exact h7
theorem insH_end {h : Hold} : ∀ {P : List Hold}, (∀ x ∈ P, x.owner < h.owner) → insH h P = P ++ [h]
  | [], _ => rfl
  | x :: P, hp => by
    unfold insH
    rw [if_pos (hp x List.mem_cons_self), insH_end fun y hy => hp y (List.mem_cons_of_mem _ hy)]; rfl
structure AddOk (r : RF) (h : Hold) : Prop where
  c : h.cls < r.lims.length
  m : 1 ≤ h.many
  n : (h.seats.length : Int) ≤ h.many
  s : SOk (layN r.rows r.grps) (takenL r.L) h.seats (-1)
  nest : nestOk r.lims (soldL r.lims.length (r.L ++ [h])) = true
theorem tie_restore {h : Hold} (t : Tie f r) (g : Good r) (hin : HoldIn h) (ho : 1 ≤ h.owner) (hlt : ∀ x ∈ r.L, x.owner < h.owner) :
    ((restoreF f h).2 = true ↔ AddOk r h) ∧ ((restoreF f h).2 = true → Tie (restoreF f h).1 { r with L := r.L ++ [h] } ∧ Good { r with L := r.L ++ [h] }) := by
  obtain ⟨t1, t2, t3⟩ := tie_take t g h.owner h.cls h.many
  have hno : ¬ (getO h.owner r.L).isSome = true := by
    rw [getO_none.2 fun x hx e => by have := hlt x hx; omega]; simp
  have hio := hin.o
  have er : rtakeF r h.owner h.cls h.many = if (sellT r.lims r.sold h.cls h.many).2 = 0 then ({ r with L := insH ⟨h.owner, h.cls, h.many, []⟩ r.L }, 0) else (r, (sellT r.lims r.sold h.cls h.many).2) := by
    unfold rtakeF; rw [if_neg (by omega), if_neg hno]
  have hins : insH ⟨h.owner, h.cls, h.many, []⟩ r.L = r.L ++ [⟨h.owner, h.cls, h.many, []⟩] := insH_end hlt
  have hsl : ∀ {L : List Hold}, h.cls < r.lims.length → r.sold.set h.cls.toNat (r.sold.getD h.cls.toNat 0 + h.many) = soldL r.lims.length (r.L ++ [h]) := fun hc => soldL_put (List.perm_append_comm) hin.c.1 hc
  unfold restoreF
  rw [t1, er]
  by_cases hs : (sellT r.lims r.sold h.cls h.many).2 = 0
  · rw [if_pos hs]
    rw [er, if_pos hs, hins] at t2 t3
    obtain ⟨e1, e2, c0, c1, hm⟩ := nest_sell hs
    rw [e1, hsl (L := r.L) c1] at e2
    rw [if_neg (by simp)]
    by_cases hn : (h.seats.length : Int) > h.many
    · rw [if_pos hn]
      exact ⟨⟨fun e => (by cases e), fun e => by have := e.n; omega⟩, fun e => by cases e⟩
    rw [if_neg hn]
    have hlay : layN f.rows f.grps = layN r.rows r.grps := by rw [t.rows, t.grps]
    rw [hlay]
    obtain ⟨i1, i2⟩ := tie_res (P := r.L) (h := h) h.seats [] (-1) t2 t3 rfl (by simp; omega) (fun x hx => by cases hx) (by omega)
    refine ⟨i1.trans ⟨fun e => ⟨c1, hm, by omega, e, e2⟩, fun e => e.s⟩, fun e => ?_⟩
    have h7 := i2 e
    rw [List.nil_append] at h7
    exact h7
  · rw [if_neg hs, if_pos hs]
    refine ⟨⟨fun e => (by cases e), fun e => ?_⟩, fun e => by cases e⟩
    exact absurd (nest_sell_iff g.nest hin.c.1 e.c e.m (by have := hin.m.2; omega) (by rw [hsl (L := r.L) e.c]; exact e.nest)) hs
theorem fine0_iff {num rows : Int} {grps lims : List Int} : fine0 num rows grps lims = true ↔ 1 ≤ num ∧ layOk rows grps = true ∧ limOk lims = true ∧ lims.getD 0 0 = layN rows grps := by
  unfold fine0
  simp only [Bool.and_eq_true, decide_eq_true_eq, beq_iff_eq]
  constructor
  · rintro ⟨h1, h2, h3, h4⟩
    exact ⟨by omega, h2, (nestOk_iff.1 h3).1, h4⟩
  · rintro ⟨h1, h2, h3, h4⟩
    exact ⟨by omega, h2, nest_zero h3, h4⟩
theorem sok_iff {N : Int} {T : List Int} : ∀ {l : List Int} {last : Int}, SOk N T l last ↔ ∀ k (hk : k < l.length), l[k] ∉ T ∧ l[k] < N ∧ (if h : 0 < k then l[k - 1] < l[k] else last < l[k])
  | [], _ => by simp [SOk]
  | n :: l, last => by
    unfold SOk
    rw [sok_iff (l := l) (last := n)]
    constructor
    · rintro ⟨h1, h2, h3, h4⟩ k hk
      rcases k with _ | k
      · exact ⟨h1, h3, h2⟩
      · have h5 := h4 k (by simpa using hk)
        refine ⟨h5.1, h5.2.1, ?_⟩
        rw [dif_pos (by omega)]
        have h6 := h5.2.2
        rcases k with _ | k
        · exact h6
        · rw [dif_pos (by omega)] at h6; exact h6
    · intro h
      have h0 := h 0 (by simp)
      refine ⟨h0.1, h0.2.2, h0.2.1, fun k hk => ?_⟩
      have h5 := h (k + 1) (by simpa using hk)
      refine ⟨h5.1, h5.2.1, ?_⟩
      have h6 := h5.2.2
      rw [dif_pos (by omega)] at h6
      rcases k with _ | k
      · exact h6
      · rw [dif_pos (by omega)]; exact h6
structure RawIn (x : Raw) : Prop where
  num : x.num ≤ 9999
  hs : ∀ h ∈ x.L, HoldIn h
def Raw.at (x : Raw) (j : Nat) : PS := (x.L.take j).foldl stepD (emptyF x.num x.rows x.grps x.lims, fine0 x.num x.rows x.grps x.lims, 0)
def Raw.pre (x : Raw) (j : Nat) : RF := ⟨x.num, x.rows, x.grps, x.lims, x.L.take j⟩
def lastO (x : Raw) (j : Nat) : Int := if h : 0 < j ∧ j ≤ x.L.length then x.L[j - 1].owner else 0
theorem at_succ {x : Raw} {j : Nat} (h : j < x.L.length) : x.at (j + 1) = stepD (x.at j) x.L[j] := by
  unfold Raw.at
  rw [List.take_add_one, List.getElem?_eq_getElem h, List.foldl_append]; rfl
theorem owR_lt {L : List Hold} {o : Int} (h : OwR L) : ∀ (hl : 0 < L.length), L[L.length - 1].owner < o → ∀ x ∈ L, x.owner < o := fun hl hlast x hx => by
  obtain ⟨i, hi, rfl⟩ := List.getElem_of_mem hx
  by_cases e : i = L.length - 1
  · subst e; exact hlast
  · have := List.pairwise_iff_getElem.1 h i (L.length - 1) hi (by omega) (by omega)
    omega
theorem okAt_add {x : Raw} (xi : RawIn x) {j : Nat} (hj : j < x.L.length) (hr : ∀ y ∈ x.L.take j, y.owner < x.L[j].owner) :
    OkAt x.rf j hj ↔ (1 ≤ x.L[j].owner ∧ (∀ h : 0 < j, x.L[j - 1].owner < x.L[j].owner) ∧ x.L[j].cls < x.lims.length ∧ 1 ≤ x.L[j].many ∧ (x.L[j].seats.length : Int) ≤ x.L[j].many ∧ SOk (layN x.rows x.grps) (takenL (x.L.take j)) x.L[j].seats (-1)) := by
  have hin := xi.hs x.L[j] (List.getElem_mem _)
  rw [sok_iff]
  constructor
  · intro h
    refine ⟨h.o, h.p, h.c, h.m, h.n, fun k hk => ?_⟩
    have h1 := h.s k hk
    refine ⟨fun hm => h1.1 (List.mem_append_left _ hm), h1.2.1, ?_⟩
    split
    · exact h1.2.2 (by assumption)
    · have := hin.s x.L[j].seats[k] (List.getElem_mem _); omega
  · rintro ⟨h1, h2, h3, h4, h5, h6⟩
    refine ⟨h1, h2, h3, h4, h5, fun k hk => ?_⟩
    have h7 := h6 k hk
    have hrise : ∀ (t i : Nat) (hi : i + t < x.L[j].seats.length), 0 < t → x.L[j].seats[i]'(by omega) < x.L[j].seats[i + t] := fun t => by
      induction t with
      | zero => intro i hi h0; omega
      | succ t ih =>
        intro i hi _
        have h8 := (h6 (i + (t + 1)) hi).2.2
        rw [dif_pos (by omega)] at h8
        by_cases ht : t = 0
        · subst ht; exact h8
        · have h9 := ih i (by omega) (by omega)
          have h8 : x.L[j].seats[i + t]'(by omega) < x.L[j].seats[i + (t + 1)] := h8
          omega
    refine ⟨fun hm => ?_, h7.2.1, fun h0 => by have h8 := h7.2.2; rw [dif_pos h0] at h8; exact h8⟩
    rcases List.mem_append.1 hm with hm | hm
    · exact h7.1 hm
    · obtain ⟨i, hi, he⟩ := List.getElem_of_mem hm
      rw [List.length_take] at hi
      rw [List.getElem_take] at he
      have hk' : k < x.L[j].seats.length := hk
      have hi : i < min k x.L[j].seats.length := hi
      have he : x.L[j].seats[i]'(by omega) = x.L[j].seats[k] := he
      have h9 := hrise (k - i) i (by omega) (by omega)
      have e : i + (k - i) = k := by omega
      simp only [e] at h9
      omega
theorem at_good {x : Raw} (xi : RawIn x) : ∀ j, j ≤ x.L.length → (x.at j).2.2 = lastO x j ∧ ((x.at j).2.1 = true → Tie (x.at j).1 (x.pre j) ∧ Good (x.pre j) ∧ ∀ i (hi : i < x.L.length), i < j → OkAt x.rf i hi)
  | 0, _ => by
    refine ⟨rfl, fun h => ?_⟩
    obtain ⟨h1, h2, h3, h4⟩ := fine0_iff.1 h
    refine ⟨tie_new, ⟨⟨h1, xi.num⟩, h2, ?_, h4, List.Pairwise.nil, fun h hh => (by cases hh), List.Pairwise.nil⟩, fun i _ hi => by omega⟩
    show nestOk _ (soldL _ []) = true
    rw [soldL_nil]; exact nest_zero h3
  | j + 1, hj => by
    have hj1 : j < x.L.length := by omega
    obtain ⟨i1, i2⟩ := at_good xi j (by omega)
    have hlast : lastO x (j + 1) = x.L[j].owner := by unfold lastO; rw [dif_pos ⟨by omega, hj⟩]; rfl
    rw [at_succ hj1, hlast]
    unfold stepD
    by_cases hc : (x.at j).2.1 = true ∧ x.L[j].owner > (x.at j).2.2
    · rw [if_pos hc]
      refine ⟨rfl, fun h => ?_⟩
      obtain ⟨t, g, hok⟩ := i2 hc.1
      rw [i1] at hc
      have hin := xi.hs x.L[j] (List.getElem_mem _)
      have hlt : ∀ y ∈ (x.pre j).L, y.owner < x.L[j].owner := fun y hy => by
        have hne : 0 < (x.pre j).L.length := List.length_pos_iff.2 fun e => by rw [e] at hy; cases hy
        refine owR_lt g.rise hne ?_ y hy
        have hl : (x.pre j).L.length = j := by show (x.L.take j).length = j; rw [List.length_take]; omega
        have h2 := hc.2
        unfold lastO at h2
        rw [dif_pos ⟨by omega, by omega⟩] at h2
        have h3 : (x.pre j).L[(x.pre j).L.length - 1] = x.L[j - 1] := by
          show (x.L.take j)[(x.L.take j).length - 1]'(by rw [List.length_take]; omega) = _
          rw [List.getElem_take]
          congr 1
          rw [List.length_take]; omega
        rw [h3]; exact h2
      have ho1 : 1 ≤ x.L[j].owner := by
        have h2 := hc.2
        unfold lastO at h2
        split at h2
        · have := (xi.hs x.L[j - 1] (List.getElem_mem _)).o; omega
        · omega
      obtain ⟨r1, r2⟩ := tie_restore t g hin ho1 hlt
      have e : { x.pre j with L := (x.pre j).L ++ [x.L[j]] } = x.pre (j + 1) := by
        unfold Raw.pre
        rw [List.take_add_one, List.getElem?_eq_getElem hj1]; rfl
      have h5 := r2 h
      rw [e] at h5
      refine ⟨h5.1, h5.2, fun i hi hij => ?_⟩
      by_cases hie : i = j
      · subst hie
        have ha := r1.1 h
        refine (okAt_add xi hj1 hlt).2 ⟨ho1, fun h0 => ?_, ha.c, ha.m, ha.n, ha.s⟩
        have h2 := hc.2
        unfold lastO at h2
        rw [dif_pos ⟨by omega, by omega⟩] at h2
        exact h2
      · exact hok i hi (by omega)
    · rw [if_neg hc]
      exact ⟨rfl, fun h => by cases h⟩
theorem may_at {x : Raw} (xi : RawIn x) (m : MayP x.rf) : ∀ j, j ≤ x.L.length → (x.at j).2.1 = true
  | 0, _ => fine0_iff.2 ⟨m.num, m.lay, m.lim, m.l0⟩
  | j + 1, hj => by
    have hj1 : j < x.L.length := by omega
    have ih := may_at xi m j (by omega)
    obtain ⟨i1, i2⟩ := at_good xi j (by omega)
    obtain ⟨t, g, hok⟩ := i2 ih
    have hin := xi.hs x.L[j] (List.getElem_mem _)
    have ok := m.each j hj1
    rw [at_succ hj1]
    have hgt : x.L[j].owner > (x.at j).2.2 := by
      rw [i1]
      unfold lastO
      split
      · rename_i h; exact ok.p h.1
      · have := ok.o; show 0 < x.L[j].owner; exact this
    have hlt : ∀ y ∈ (x.pre j).L, y.owner < x.L[j].owner := fun y hy => by
      have hne : 0 < (x.pre j).L.length := List.length_pos_iff.2 fun e => by rw [e] at hy; cases hy
      refine owR_lt g.rise hne ?_ y hy
      have hl : (x.pre j).L.length = j := by show (x.L.take j).length = j; rw [List.length_take]; omega
      have h3 : (x.pre j).L[(x.pre j).L.length - 1] = x.L[j - 1] := by
        show (x.L.take j)[(x.L.take j).length - 1]'(by rw [List.length_take]; omega) = _
        rw [List.getElem_take]
        congr 1
        rw [List.length_take]; omega
      rw [h3]; exact ok.p (by omega)
    unfold stepD
    rw [if_pos ⟨ih, hgt⟩]
    refine (tie_restore t g hin ok.o hlt).1.2 ?_
    have ha := (okAt_add xi hj1 hlt).1 ok
    refine ⟨ha.2.2.1, ha.2.2.2.1, ha.2.2.2.2.1, ha.2.2.2.2.2, ?_⟩
    have e : (x.pre j).L ++ [x.L[j]] = x.L.take (j + 1) := by
      show x.L.take j ++ _ = _
      rw [List.take_add_one, List.getElem?_eq_getElem hj1]; rfl
    rw [e]
    show nestOk x.lims (soldL x.lims.length (x.L.take (j + 1))) = true
    refine nest_le m.nest (by show (soldL _ _).length = (soldL _ _).length; rw [soldL_len, soldL_len]; rfl) fun k hk => ?_
    have hk : k < x.lims.length := hk
    show 0 ≤ (soldL x.lims.length (x.L.take (j + 1))).getD k 0 ∧ (soldL x.lims.length (x.L.take (j + 1))).getD k 0 ≤ (soldL x.lims.length x.L).getD k 0
    rw [soldL_getD hk, soldL_getD hk]
    have hmm : ∀ y ∈ x.L, 1 ≤ y.many := fun y hy => by
      obtain ⟨i, hi, rfl⟩ := List.getElem_of_mem hy
      exact (m.each i hi).m
    refine ⟨cntL_nn fun y hy => hmm y (List.mem_of_mem_take hy), ?_⟩
    have h8 : cntL (k : Int) x.L = cntL (k : Int) (x.L.take (j + 1)) + cntL (k : Int) (x.L.drop (j + 1)) := by rw [← cntL_app, List.take_append_drop]
    have h9 := cntL_nn (k := (k : Int)) (L := x.L.drop (j + 1)) fun y hy => hmm y (List.mem_of_mem_drop hy)
    omega
theorem run_at (x : Raw) : x.run = x.at x.L.length ∧ x.rf = x.pre x.L.length := by
  constructor
  · unfold Raw.run Raw.at; rw [List.take_length]
  · unfold Raw.rf Raw.pre; rw [List.take_length]
theorem run_iff {x : Raw} (xi : RawIn x) : (x.run.2.1 = true ↔ MayP x.rf) ∧ (x.run.2.1 = true → Tie x.run.1 x.rf ∧ Good x.rf) := by
  obtain ⟨e1, e2⟩ := run_at x
  have h := (at_good xi x.L.length (Nat.le_refl _)).2
  rw [← e1, ← e2] at h
  refine ⟨⟨fun hr => ?_, fun m => by rw [e1]; exact may_at xi m _ (Nat.le_refl _)⟩, fun hr => ⟨(h hr).1, (h hr).2.1⟩⟩
  obtain ⟨t, g, hok⟩ := h hr
  exact ⟨g.num.1, g.lay, (nestOk_iff.1 g.nest).1, g.l0, fun j hj => hok j hj hj, g.nest⟩
theorem rawD_in {bs : List Int} (hb : ∀ y ∈ bs, 0 ≤ y ∧ y < 256) : RawIn (rawD bs) := by
  have hb0 : ∀ y ∈ (⟨bs, false⟩ : Rd).bs, 0 ≤ y ∧ y < 256 := hb
  have h5 := rdNum_bd (most := 600) (nList_bd (most := 8) (each := 10000) (nList_bd (most := 4) (each := 10) (rdNum_bd (most := 60) (rdNum_bd (most := 9999) hb0))))
  exact ⟨(rdNum_val (most := 9999) hb0 (by omega)).2, (readHs_val _ h5).1⟩
end Go.Proofs.YtfgbbckfikiomaaGreatDoor
/- A flight, plain: its bytes are it again. Condition: none. -/
namespace Go.Proofs.YtfgbbckfikiomaaGreatDoor
set_option linter.unusedVariables false
open Go Go.VC
theorem rdNum_code {n : Nat} {most : Int} {rest : List Int} (h : n < 18446744073709551616) (hm : (n : Int) ≤ most) : rdNum most ⟨numB n ++ rest, false⟩ = ((n : Int), ⟨rest, false⟩) := by
  unfold rdNum
  rw [if_neg (by simp)]
  dsimp only
  rw [parse_num h]
  dsimp only
  rw [if_pos ⟨rfl, hm⟩, List.drop_left]
theorem rdNum_nums {x most : Int} {rest : List Int} (h0 : 0 ≤ x) (h1 : x ≤ most) (h2 : x < 18446744073709551616) : rdNum most ⟨numsB [x] ++ rest, false⟩ = (x, ⟨rest, false⟩) := by
  obtain ⟨n, rfl⟩ := Int.eq_ofNat_of_zero_le h0
  have e : numsB [(n : Int)] = numB n := by simp [numsB]
  rw [e]
  exact rdNum_code (by omega) h1
theorem nMany_nums {each : Int} (he : each < 18446744073709551616) {rest : List Int} : ∀ {l : List Int}, (∀ x ∈ l, 0 ≤ x ∧ x ≤ each) → nMany l.length each ⟨numsB l ++ rest, false⟩ = (l, ⟨rest, false⟩)
  | [], _ => rfl
  | x :: l, h => by
    have h1 := h x List.mem_cons_self
    rw [numsB_one, List.append_assoc]
    show ((rdNum each _).1 :: (nMany l.length each (rdNum each _).2).1, (nMany l.length each (rdNum each _).2).2) = _
    rw [rdNum_nums h1.1 h1.2 (by omega)]
    dsimp only
    rw [nMany_nums he fun y hy => h y (List.mem_cons_of_mem _ hy)]
theorem nList_list {most each : Int} (he : each < 18446744073709551616) {rest l : List Int} (hl : (l.length : Int) ≤ most) (hm : most < 18446744073709551616) (h : ∀ x ∈ l, 0 ≤ x ∧ x ≤ each) : nList most each ⟨listB l ++ rest, false⟩ = (l, ⟨rest, false⟩) := by
  unfold nList listB
  rw [List.append_assoc, rdNum_nums (by omega) hl (by omega)]
  exact nMany_nums he h
theorem readH_hold {h : Hold} (hin : HoldIn h) (rest : List Int) : readH ⟨holdB h ++ rest, false⟩ = (h, ⟨rest, false⟩) := by
  have e : holdB h ++ rest = numsB [h.owner] ++ (numsB [h.cls] ++ (numsB [h.many] ++ (listB h.seats ++ rest))) := by
    unfold holdB
    rw [numsB_one h.owner, numsB_one h.cls]
    simp only [List.append_assoc]
  have := hin.o
  have := hin.c
  have := hin.m
  have := hin.n
  unfold readH
  rw [e, rdNum_nums (by omega) (by omega) (by omega)]
  dsimp only
  rw [rdNum_nums (by omega) (by omega) (by omega)]
  dsimp only
  rw [rdNum_nums (by omega) (by omega) (by omega)]
  dsimp only
  rw [nList_list (by omega) (by omega) (by omega) hin.s]
theorem readHs_holds {rest : List Int} : ∀ {L : List Hold}, (∀ h ∈ L, HoldIn h) → readHs L.length ⟨holdsB L ++ rest, false⟩ = (L, ⟨rest, false⟩)
  | [], _ => rfl
  | h :: L, hin => by
    have e : holdsB (h :: L) ++ rest = holdB h ++ (holdsB L ++ rest) := by simp [holdsB]
    rw [e]
    show ((readH _).1 :: (readHs L.length (readH _).2).1, (readHs L.length (readH _).2).2) = _
    rw [readH_hold (hin h List.mem_cons_self)]
    dsimp only
    rw [readHs_holds fun x hx => hin x (List.mem_cons_of_mem _ hx)]
variable {f : PF} {r : RF}
theorem good_in (g : Good r) : ∀ h ∈ r.L, HoldIn h := fun h hh => by
  have h1 := g.each h hh
  have h2 := g.len.2 h hh
  have h3 := (limOk_iff.1 (nestOk_iff.1 g.nest).1).1.2
  have h4 := (layN_bd r.rows r.grps).2
  have := h1.owner
  have := h1.cls
  have := h1.many
  have := h1.few
  exact ⟨by omega, by omega, by omega, fun x hx => by have := h1.seats x hx; omega, by omega⟩
theorem good_lims (g : Good r) : (∀ x ∈ r.lims, 0 ≤ x ∧ x ≤ 10000) ∧ 1 ≤ r.lims.length ∧ r.lims.length ≤ 8 := by
  obtain ⟨h1, h2⟩ := limOk_iff.1 (nestOk_iff.1 g.nest).1
  refine ⟨fun x hx => ?_, h1⟩
  obtain ⟨i, hi, rfl⟩ := List.getElem_of_mem hx
  exact (h2 i hi).1
theorem rawD_enc (g : Good r) : rawD (rencB r) = ⟨r.num, r.rows, r.grps, r.lims, r.L, ⟨[], false⟩⟩ := by
  obtain ⟨l1, l2, l3⟩ := layOk_iff.1 g.lay
  obtain ⟨m1, m2, m3⟩ := good_lims g
  have hlen := g.len.1
  have hnum := g.num
  have e : rencB r = numsB [r.num] ++ (numsB [r.rows] ++ (listB r.grps ++ (listB r.lims ++ (numsB [(r.L.length : Int)] ++ (holdsB r.L ++ []))))) := by
    unfold rencB encB
    rw [numsB_one r.num]
    simp only [List.append_assoc, List.append_nil]
  unfold rawD
  rw [e]
  dsimp only
  rw [rdNum_nums (by omega) (by omega) (by omega)]
  dsimp only
  rw [rdNum_nums (by omega) (by omega) (by omega)]
  dsimp only
  rw [nList_list (by omega) (by omega) (by omega) (fun x hx => by have := l2 x hx; omega)]
  dsimp only
  rw [nList_list (by omega) (by omega) (by omega) m1]
  dsimp only
  rw [rdNum_nums (by omega) (by omega) (by omega)]
  dsimp only
  rw [show ((r.L.length : Int)).toNat = r.L.length from rfl, readHs_holds (good_in g)]
theorem good_may (g : Good r) : MayP r := by
  refine ⟨g.num.1, g.lay, (nestOk_iff.1 g.nest).1, g.l0, fun j hj => ?_, g.nest⟩
  have hh := g.each r.L[j] (List.getElem_mem _)
  refine ⟨hh.owner.1, fun h0 => List.pairwise_iff_getElem.1 g.rise (j - 1) j (by omega) hj (by omega), hh.cls.2, hh.many, hh.few, fun k hk => ⟨fun hm => ?_, (hh.seats _ (List.getElem_mem _)).2, fun h0 => hh.rise (k - 1) k hk (by omega)⟩⟩
  rcases List.mem_append.1 hm with hm | hm
  · obtain ⟨x, hx, hxm⟩ := mem_taken.1 hm
    obtain ⟨i, hi, rfl⟩ := List.getElem_of_mem hx
    rw [List.length_take] at hi
    rw [List.getElem_take] at hxm
    exact List.pairwise_iff_getElem.1 g.apart i j (by omega) hj (by omega) _ hxm (List.getElem_mem _)
  · obtain ⟨i, hi, he⟩ := List.getElem_of_mem hm
    rw [List.length_take] at hi
    rw [List.getElem_take] at he
    have := hh.rise i k hk (by omega)
    omega
theorem good_small (g : Good r) : RSmall r := by
  obtain ⟨l1, l2, l3⟩ := layOk_iff.1 g.lay
  obtain ⟨m1, m2, m3⟩ := good_lims g
  have hlen := g.len.1
  have hnum := g.num
  refine ⟨by omega, by omega, fun x hx => by have := l2 x hx; omega, fun x hx => by have := m1 x hx; omega, by omega, by omega, fun h hh => ?_, by omega⟩
  have hin := good_in g h hh
  have := hin.o
  have := hin.c
  have := hin.m
  have := hin.n
  exact ⟨by omega, by omega, by omega, fun x hx => by have := hin.s x hx; omega, by omega⟩
theorem renc_bd (g : Good r) : (∀ y ∈ rencB r, 0 ≤ y ∧ y < 256) ∧ (rencB r).length ≤ 6000000 := by
  have s := good_small g
  obtain ⟨l1, l2, l3⟩ := layOk_iff.1 g.lay
  obtain ⟨m1, m2, m3⟩ := good_lims g
  have hlen := g.len.1
  have u2 : small [r.num, r.rows] := by intro y hy; have := s.num; have := s.rows; simp at hy; omega
  have u1 : small [(r.L.length : Int)] := by intro y hy; simp at hy; omega
  constructor
  · intro y hy
    unfold rencB encB at hy
    simp only [List.mem_append] at hy
    rcases hy with (((hy | hy) | hy) | hy) | hy
    · exact numsB_bd (small_u u2) y hy
    · exact listB_bd s.grps (by omega) y hy
    · exact listB_bd s.lims (by omega) y hy
    · exact numsB_bd (small_u u1) y hy
    · exact holdsB_bd s.hs y hy
  · have h1 := numsB_len (small_u u2)
    have h2 := listB_len s.grps (by omega)
    have h3 := listB_len s.lims (by omega)
    have h4 := numsB_len (small_u u1)
    have h5 := holdsB_len s.hs
    simp only [List.length_cons, List.length_nil] at h1 h4
    unfold rencB encB
    simp only [List.length_append]
    omega
theorem dec_enc (g : Good r) : ∃ f', decF (rencB r) = some f' ∧ Tie f' r := by
  have e := rawD_enc g
  have hw : rdWhole (rawD (rencB r)).rd = true := by rw [e]; rfl
  have hrf : (rawD (rencB r)).rf = r := by rw [e]; rfl
  obtain ⟨r1, r2⟩ := run_iff (rawD_in (renc_bd g).1)
  rw [hrf] at r1 r2
  have hr := r1.2 (good_may g)
  exact ⟨_, by unfold decF; rw [if_pos ⟨hw, hr⟩], (r2 hr).1⟩
end Go.Proofs.YtfgbbckfikiomaaGreatDoor

/- Floats, plain, part 4: how any two stand to each other, by one integer each. No program. No condition. -/
namespace Go.VC
set_option linter.unusedVariables false
open Ieee
def bigF : Int := 2 ^ 2200
def valD : Datum → Option Int
  | .nan .. => none
  | .infinity s => some (if s then -bigF else bigF)
  | .number s m i => some (signed s m (i + 1074).toNat)
theorem signed_eq (s : Bool) (m k : Nat) : signed s m k = (if s then -1 else 1) * ((m : Int) * 2 ^ k) := by
  unfold signed
  cases s <;> simp [Nat.shiftLeft_eq]
theorem cmp_scale {a b : Int} {c : Int} (h : 0 < c) : compare (a * c) (b * c) = compare a b := by
  simp only [compare, compareOfLessAndEq]
  have h1 : a * c < b * c ↔ a < b := ⟨fun h2 => Int.lt_of_mul_lt_mul_right h2 (by omega), fun h2 => Int.mul_lt_mul_of_pos_right h2 h⟩
  have h2 : a * c = b * c ↔ a = b := ⟨fun h3 => Int.eq_of_mul_eq_mul_right (by omega) h3, fun h3 => by rw [h3]⟩
  simp only [h1, h2]
theorem signed_up (s : Bool) (m k c : Nat) : signed s m (k + c) = signed s m k * 2 ^ c := by
  rw [signed_eq, signed_eq, Int.pow_add]
  rw [Int.mul_assoc, Int.mul_assoc]
theorem read_bd {x : Nat} {s : Bool} {m : Nat} {i : Int} (h : double.read x = .number s m i) : (-1074 ≤ i ∧ i ≤ 971) ∧ m < 2 ^ 53 := by
  unfold Format.read at h
  simp only [dbl_binade, dbl_inf, dbl_least, dbl_sign] at h
  split at h
  · rename_i hr
    simp only [Datum.number.injEq] at h
    obtain ⟨_, rfl, rfl⟩ := h
    exact ⟨⟨by omega, by omega⟩, by omega⟩
  · split at h
    · rename_i hr
      simp only [Datum.number.injEq] at h
      obtain ⟨_, rfl, rfl⟩ := h
      refine ⟨⟨by omega, ?_⟩, by omega⟩
      have : x % 9223372036854775808 / 4503599627370496 ≤ 2046 := by omega
      omega
    · split at h <;> cases h
theorem int_pow (n : Nat) : (2 : Int) ^ n = ((2 ^ n : Nat) : Int) := by rw [Int.natCast_pow]; rfl
theorem big_pos (n : Nat) : (0 : Int) < 2 ^ n := Int.pow_pos (by omega)
theorem pow_bd {m k n N : Nat} (hm : m < 2 ^ 53) (hk : k ≤ n) (hN : 53 + n < N) : m * 2 ^ k < 2 ^ N := by
  have h1 : m * 2 ^ k ≤ 2 ^ 53 * 2 ^ n := Nat.mul_le_mul (by omega) (Nat.pow_le_pow_right (by omega) hk)
  rw [← Nat.pow_add] at h1
  exact Nat.lt_of_le_of_lt h1 (Nat.pow_lt_pow_right (by omega) hN)
theorem val_bd {x : Nat} {s : Bool} {m : Nat} {i : Int} (h : double.read x = .number s m i) : -bigF < signed s m (i + 1074).toNat ∧ signed s m (i + 1074).toNat < bigF := by
  obtain ⟨⟨h1, h2⟩, h3⟩ := read_bd h
  have hk : (i + 1074).toNat ≤ 2045 := by omega
  have hp : m * 2 ^ (i + 1074).toNat < 2 ^ 2200 := pow_bd (N := 2200) (n := 2045) h3 hk (by omega)
  have hp2 : ((m * 2 ^ (i + 1074).toNat : Nat) : Int) < bigF := by
    unfold bigF
    rw [int_pow]
    exact Int.ofNat_lt.2 hp
  have hb : (0 : Int) < bigF := by unfold bigF; exact big_pos 2200
  have e : signed s m (i + 1074).toNat = if s then -((m * 2 ^ (i + 1074).toNat : Nat) : Int) else ((m * 2 ^ (i + 1074).toNat : Nat) : Int) := by
    unfold signed; rw [Nat.shiftLeft_eq]
  rw [e]
  generalize m * 2 ^ (i + 1074).toNat = n at *
  cases s <;> simp <;> omega
theorem ord_val (x y : Nat) : double.order x y = match valD (double.read x), valD (double.read y) with
    | some a, some b => some (compare a b)
    | _, _ => none := by
  have hb : (0 : Int) < bigF := by unfold bigF; exact big_pos 2200
  have lt_cmp : ∀ a b : Int, a < b → compare a b = .lt := fun a b h => by simp only [compare, compareOfLessAndEq, if_pos h]
  have gt_cmp : ∀ a b : Int, b < a → compare a b = .gt := fun a b h => by simp only [compare, compareOfLessAndEq]; rw [if_neg (by omega), if_neg (by omega)]
  have eq_cmp : ∀ a : Int, compare a a = .eq := fun a => by simp [compare, compareOfLessAndEq]
  unfold Format.order
  cases hx : double.read x with
  | nan s t => cases double.read y <;> rfl
  | infinity s =>
    cases hy : double.read y with
    | nan => rfl
    | infinity t =>
      show some (compare t.toNat s.toNat) = some (compare (if s then -bigF else bigF) (if t then -bigF else bigF))
      cases s <;> cases t
      · simp only [Bool.false_eq_true, if_false]; rw [eq_cmp]; rfl
      · simp only [Bool.false_eq_true, if_false, if_true]; rw [gt_cmp _ _ (by omega)]; rfl
      · simp only [Bool.false_eq_true, if_false, if_true]; rw [lt_cmp _ _ (by omega)]; rfl
      · simp only [if_true]; rw [eq_cmp]; rfl
    | number t n j =>
      have := val_bd hy
      show some (if s then Ordering.lt else .gt) = some (compare (if s then -bigF else bigF) (signed t n (j + 1074).toNat))
      cases s
      · simp only [Bool.false_eq_true, if_false]; rw [gt_cmp _ _ (by omega)]
      · simp only [if_true]; rw [lt_cmp _ _ (by omega)]
  | number s m i =>
    cases hy : double.read y with
    | nan => rfl
    | infinity t =>
      have := val_bd hx
      show some (if t then Ordering.gt else .lt) = some (compare (signed s m (i + 1074).toNat) (if t then -bigF else bigF))
      cases t
      · simp only [Bool.false_eq_true, if_false]; rw [lt_cmp _ _ (by omega)]
      · simp only [if_true]; rw [gt_cmp _ _ (by omega)]
    | number t n j =>
      obtain ⟨⟨i1, i2⟩, _⟩ := read_bd hx
      obtain ⟨⟨j1, j2⟩, _⟩ := read_bd hy
      show some (compare (signed s m (i - min i j).toNat) (signed t n (j - min i j).toNat)) = some (compare (signed s m (i + 1074).toNat) (signed t n (j + 1074).toNat))
      have e1 : (i + 1074).toNat = (i - min i j).toNat + (min i j + 1074).toNat := by omega
      have e2 : (j + 1074).toNat = (j - min i j).toNat + (min i j + 1074).toNat := by omega
      rw [e1, e2, signed_up, signed_up, cmp_scale (Int.pow_pos (by omega))]
def kvF (x : Nat) : Int := match valD (double.read x) with | none => -bigF - 1 | some v => v
def nanF (x : Nat) : Bool := (valD (double.read x)).isNone
theorem kv_bd {x : Nat} (h : nanF x = false) : -bigF ≤ kvF x := by
  have hb : (0 : Int) < bigF := by unfold bigF; exact big_pos 2200
  unfold nanF at h
  unfold kvF
  cases hr : double.read x with
  | nan s t => rw [hr] at h; cases h
  | infinity s =>
    show -bigF ≤ if s then -bigF else bigF
    split <;> omega
  | number s m i => have := (val_bd hr).1; show -bigF ≤ signed s m (i + 1074).toNat; omega
theorem kv_nan {x : Nat} (h : nanF x = true) : kvF x = -bigF - 1 := by
  unfold nanF at h
  unfold kvF
  cases hv : valD (double.read x) with
  | none => rfl
  | some v => rw [hv] at h; cases h
theorem ord_lt {x y : Nat} (hx : nanF x = false) (hy : nanF y = false) : (double.order x y == some .lt) = decide (kvF x < kvF y) ∧ (double.order x y == some .eq) = decide (kvF x = kvF y) ∧ (double.order x y == some .gt) = decide (kvF y < kvF x) := by
  rw [ord_val]
  unfold nanF at hx hy
  unfold kvF
  cases hvx : valD (double.read x) with
  | none => rw [hvx] at hx; cases hx
  | some a =>
    cases hvy : valD (double.read y) with
    | none => rw [hvy] at hy; cases hy
    | some b =>
      dsimp only
      simp only [compare, compareOfLessAndEq]
      by_cases h1 : a < b
      · rw [if_pos h1]
        refine ⟨by rw [decide_eq_true h1]; rfl, by rw [decide_eq_false (by omega)]; rfl, by rw [decide_eq_false (by omega)]; rfl⟩
      · rw [if_neg h1]
        by_cases h2 : a = b
        · rw [if_pos h2]
          refine ⟨by rw [decide_eq_false h1]; rfl, by rw [decide_eq_true h2]; rfl, by rw [decide_eq_false (by omega)]; rfl⟩
        · rw [if_neg h2]
          refine ⟨by rw [decide_eq_false h1]; rfl, by rw [decide_eq_false h2]; rfl, by rw [decide_eq_true (by omega)]; rfl⟩
theorem ord_none {x y : Nat} (h : nanF x = true ∨ nanF y = true) : double.order x y = none := by
  rw [ord_val]
  unfold nanF at h
  cases hvx : valD (double.read x) with
  | none => rfl
  | some a =>
    cases hvy : valD (double.read y) with
    | none => rfl
    | some b => rw [hvx, hvy] at h; simp at h
theorem ord_self (x : Nat) : (double.order x x == some .eq) = !nanF x := by
  cases h : nanF x with
  | true => rw [ord_none (.inl h)]; rfl
  | false => rw [(ord_lt h h).2.1]; simp
def rankF (a b : Nat) : Int := if kvF a < kvF b then -1 else if kvF a = kvF b then 0 else 1
end Go.VC
/- Who waits, plainly: their order, putting in, taking out, the first that fits. No condition. -/
namespace Go.VC
set_option linter.unusedVariables false
def ofF (k : Nat) : Nat := if 9223372036854775808 ≤ k then k - 9223372036854775808 else 18446744073709551615 - k
theorem of_lt {k : Nat} (h : k < 18446744073709551616) : ofF k < 18446744073709551616 := by
  unfold ofF
  split <;> omega
structure Wt where
  id : Int
  cls : Int
  many : Int
  time : Int
  sc : Nat
deriving DecidableEq
def Wt.Ok (w : Wt) : Prop := (1 ≤ w.id ∧ w.id ≤ 28629151) ∧ (0 ≤ w.cls ∧ w.cls ≤ 7) ∧ (1 ≤ w.many ∧ w.many ≤ 600) ∧ (0 ≤ w.time ∧ w.time ≤ 1099511627776)
instance (w : Wt) : Decidable w.Ok := by unfold Wt.Ok; infer_instance
def Wt.ahead (a b : Wt) : Bool := if kvF a.sc = kvF b.sc then (if a.time = b.time then decide (a.id < b.id) else decide (a.time < b.time)) else decide (kvF b.sc < kvF a.sc)
theorem ahead_iff {a b : Wt} : a.ahead b = true ↔ kvF b.sc < kvF a.sc ∨ kvF a.sc = kvF b.sc ∧ (a.time < b.time ∨ a.time = b.time ∧ a.id < b.id) := by
  unfold Wt.ahead
  split
  · split
    · simp; omega
    · simp; omega
  · simp; omega
theorem ahead_trans {a b c : Wt} (h1 : a.ahead b = true) (h2 : b.ahead c = true) : a.ahead c = true := by
  rw [ahead_iff] at *; omega
theorem ahead_tot {a b : Wt} (h : a.id ≠ b.id) (h1 : a.ahead b = false) : b.ahead a = true := by
  rw [ahead_iff]
  have : ¬ a.ahead b = true := by rw [h1]; simp
  rw [ahead_iff] at this
  omega
def Wt.ord (a b : Wt) : Int := if rankF b.sc a.sc ≠ 0 then rankF b.sc a.sc else if a.time < b.time then -1 else if b.time < a.time then 1 else if a.id < b.id then -1 else if b.id < a.id then 1 else 0
theorem ord_neg {a b : Wt} : a.ord b < 0 ↔ a.ahead b = true := by
  rw [ahead_iff]
  unfold Wt.ord rankF
  repeat' split
  all_goals first | omega | (simp at *; omega)
def QSt (q : List Wt) : Prop := q.Pairwise fun a b => a.ahead b = true
def QIds (q : List Wt) : Prop := q.Pairwise fun a b => a.id ≠ b.id
structure QOk (q : List Wt) : Prop where
  st : QSt q
  ids : QIds q
  ok : ∀ w ∈ q, w.Ok
  fl : ∀ w ∈ q, w.sc < 18446744073709551616
  len : q.length ≤ 200
theorem QOk.nil : QOk [] := ⟨List.Pairwise.nil, List.Pairwise.nil, fun _ h => (by cases h), fun _ h => (by cases h), by simp⟩
def insQ (w : Wt) (q : List Wt) : List Wt := q.takeWhile (fun a => a.ahead w) ++ w :: q.dropWhile (fun a => a.ahead w)
theorem insQ_cons (w a : Wt) (q : List Wt) : insQ w (a :: q) = if a.ahead w then a :: insQ w q else w :: a :: q := by
  unfold insQ
  rw [List.takeWhile_cons, List.dropWhile_cons]
  split <;> rfl
theorem insQ_mem {w x : Wt} : ∀ {q : List Wt}, x ∈ insQ w q ↔ x = w ∨ x ∈ q
  | [] => by simp [insQ]
  | a :: q => by
    rw [insQ_cons]
    split
    · rw [List.mem_cons, insQ_mem, List.mem_cons]
      constructor
      · rintro (h | h | h) <;> simp [h]
      · rintro (h | h | h) <;> simp [h]
    · rw [List.mem_cons]
theorem insQ_len {w : Wt} : ∀ {q : List Wt}, (insQ w q).length = q.length + 1
  | [] => rfl
  | a :: q => by
    rw [insQ_cons]
    split
    · rw [List.length_cons, insQ_len, List.length_cons]
    · rfl
theorem insQ_st {w : Wt} : ∀ {q : List Wt}, QSt q → (∀ x ∈ q, x.id ≠ w.id) → QSt (insQ w q)
  | [], _, _ => List.Pairwise.cons (fun _ h => (by cases h)) List.Pairwise.nil
  | a :: q, h, hid => by
    have h1 := List.pairwise_cons.1 h
    rw [insQ_cons]
    split
    · rename_i ha
      refine List.Pairwise.cons (fun x hx => ?_) (insQ_st h1.2 fun x hx => hid x (by simp [hx]))
      rcases insQ_mem.1 hx with rfl | hx
      · exact ha
      · exact h1.1 x hx
    · rename_i ha
      have hwa : w.ahead a = true := ahead_tot (hid a (by simp)) (by simpa using ha)
      refine List.Pairwise.cons (fun x hx => ?_) h
      rcases List.mem_cons.1 hx with rfl | hx
      · exact hwa
      · exact ahead_trans hwa (h1.1 x hx)
theorem insQ_ids {w : Wt} : ∀ {q : List Wt}, QIds q → (∀ x ∈ q, x.id ≠ w.id) → QIds (insQ w q)
  | [], _, _ => List.Pairwise.cons (fun _ h => (by cases h)) List.Pairwise.nil
  | a :: q, h, hid => by
    have h1 := List.pairwise_cons.1 h
    rw [insQ_cons]
    split
    · refine List.Pairwise.cons (fun x hx => ?_) (insQ_ids h1.2 fun x hx => hid x (by simp [hx]))
      rcases insQ_mem.1 hx with rfl | hx
      · exact hid a (by simp)
      · exact h1.1 x hx
    · refine List.Pairwise.cons (fun x hx => ?_) h
      exact fun e => hid x hx e.symm
theorem insQ_at {w : Wt} {q : List Wt} {i : Nat} (hst : QSt q) (h1 : i = 0 ∨ ∃ h : i - 1 < q.length, q[i - 1].ahead w = true) (h2 : ∀ h : i < q.length, q[i].ahead w = false) (hi : i ≤ q.length) : insQ w q = q.take i ++ w :: q.drop i := by
  induction q generalizing i with
  | nil => cases i with
    | zero => rfl
    | succ n => simp at hi
  | cons a q ih =>
    have hp := List.pairwise_cons.1 hst
    rw [insQ_cons]
    cases i with
    | zero => rw [if_neg (by have := h2 (by simp); simp at this; simp [this])]; rfl
    | succ n =>
      have ha : a.ahead w = true := by
        rcases h1 with h1 | ⟨hl, h1⟩
        · omega
        · cases n with
          | zero => simpa using h1
          | succ m =>
            have hm : m < q.length := by simp at hl; omega
            exact ahead_trans (hp.1 q[m] (List.getElem_mem hm)) (by simpa using h1)
      rw [if_pos ha, ih hp.2 ?_ (fun hl => by have := h2 (by simp; omega); simpa using this) (by simp at hi; exact hi)]
      · rfl
      · cases n with
        | zero => exact .inl rfl
        | succ m =>
          refine .inr ⟨by simp at hi; omega, ?_⟩
          rcases h1 with h1 | ⟨hl, h1⟩
          · omega
          · simpa using h1
def hasQ (id : Int) (q : List Wt) : Bool := q.any fun w => decide (w.id = id)
def qadd (q : List Wt) (w : Wt) : List Wt × Int :=
  if ¬ w.Ok then (q, 1) else if hasQ w.id q then (q, 7) else if 200 ≤ q.length then (q, 3) else (insQ w q, 0)
def delQ (id : Int) : List Wt → List Wt
  | [] => []
  | w :: q => if w.id = id then q else w :: delQ id q
def qrem (q : List Wt) (id : Int) : List Wt × Int := if hasQ id q then (delQ id q, 0) else (q, 2)
theorem hasQ_iff {id : Int} {q : List Wt} : hasQ id q = true ↔ ∃ w ∈ q, w.id = id := by
  unfold hasQ
  simp
theorem hasQ_no {id : Int} {q : List Wt} : hasQ id q = false ↔ ∀ w ∈ q, w.id ≠ id := by
  unfold hasQ
  simp
theorem delQ_sub {id : Int} : ∀ {q : List Wt}, (delQ id q).Sublist q
  | [] => List.Sublist.refl _
  | w :: q => by
    show (if w.id = id then q else w :: delQ id q).Sublist _
    split
    · exact List.sublist_cons_self _ _
    · exact delQ_sub.cons_cons _
theorem delQ_split {id : Int} : ∀ {q : List Wt}, hasQ id q = true → ∃ A w C, q = A ++ w :: C ∧ w.id = id ∧ (∀ x ∈ A, x.id ≠ id) ∧ delQ id q = A ++ C
  | [], h => by cases h
  | w :: q, h => by
    by_cases e : w.id = id
    · exact ⟨[], w, q, rfl, e, fun _ h => (by cases h), by show (if w.id = id then q else _) = _; rw [if_pos e]; rfl⟩
    · have h2 : hasQ id q = true := by
        rw [hasQ_iff] at *
        obtain ⟨x, hx, hi⟩ := h
        rcases List.mem_cons.1 hx with rfl | hx
        · exact absurd hi e
        · exact ⟨x, hx, hi⟩
      obtain ⟨A, x, C, rfl, hx, hA, hd⟩ := delQ_split h2
      refine ⟨w :: A, x, C, rfl, hx, fun y hy => ?_, ?_⟩
      · rcases List.mem_cons.1 hy with rfl | hy
        · exact e
        · exact hA y hy
      · show (if w.id = id then _ else w :: delQ id _) = _
        rw [if_neg e, hd]; rfl
theorem delQ_mem {id : Int} {q : List Wt} (h : QIds q) {x : Wt} : x ∈ delQ id q ↔ x ∈ q ∧ x.id ≠ id := by
  induction q with
  | nil => simp [delQ]
  | cons w q ih =>
    have hp := List.pairwise_cons.1 h
    show x ∈ (if w.id = id then q else w :: delQ id q) ↔ _
    split
    · rename_i e
      constructor
      · exact fun hx => ⟨by simp [hx], fun e2 => hp.1 x hx (by rw [e, e2])⟩
      · rintro ⟨hx, hn⟩
        rcases List.mem_cons.1 hx with rfl | hx
        · exact absurd e hn
        · exact hx
    · rename_i e
      rw [List.mem_cons, ih hp.2, List.mem_cons]
      constructor
      · rintro (rfl | ⟨h1, h2⟩)
        · exact ⟨.inl rfl, e⟩
        · exact ⟨.inr h1, h2⟩
      · rintro ⟨rfl | h1, h2⟩
        · exact .inl rfl
        · exact .inr ⟨h1, h2⟩
theorem QOk.del {q : List Wt} (h : QOk q) (id : Int) : QOk (delQ id q) :=
  ⟨h.st.sublist delQ_sub, h.ids.sublist delQ_sub, fun w hw => h.ok w (delQ_sub.subset hw), fun w hw => h.fl w (delQ_sub.subset hw), Nat.le_trans delQ_sub.length_le h.len⟩
theorem QOk.rem {q : List Wt} (h : QOk q) (id : Int) : QOk (qrem q id).1 := by
  unfold qrem
  split
  · exact h.del id
  · exact h
theorem QOk.ins {q : List Wt} (h : QOk q) {w : Wt} (hw : w.Ok) (hf : w.sc < 18446744073709551616) (hn : hasQ w.id q = false) (hl : q.length < 200) : QOk (insQ w q) := by
  have hn' := hasQ_no.1 hn
  refine ⟨insQ_st h.st hn', insQ_ids h.ids hn', fun x hx => ?_, fun x hx => ?_, by rw [insQ_len]; omega⟩
  · rcases insQ_mem.1 hx with rfl | hx
    · exact hw
    · exact h.ok x hx
  · rcases insQ_mem.1 hx with rfl | hx
    · exact hf
    · exact h.fl x hx
theorem QOk.add {q : List Wt} (h : QOk q) {w : Wt} (hf : w.sc < 18446744073709551616) : QOk (qadd q w).1 := by
  unfold qadd
  split
  · exact h
  · rename_i h1
    split
    · exact h
    · rename_i h2
      split
      · exact h
      · rename_i h3
        exact h.ins (by simpa using h1) hf (by simpa using h2) (by omega)
def fitsQ (left : List Int) (w : Wt) : Bool := decide (w.cls < left.length) && decide (w.many ≤ left.getD w.cls.toNat 0)
def qfirst (q : List Wt) (left : List Int) : Option Wt := q.find? (fitsQ left)
theorem qfirst_mem {q : List Wt} {left : List Int} {w : Wt} (h : qfirst q left = some w) : w ∈ q ∧ fitsQ left w = true :=
  ⟨List.mem_of_find?_eq_some h, List.find?_some h⟩
end Go.VC
/- A locator, plainly. No condition. -/
namespace Go.VC
set_option linter.unusedVariables false
def signB : List Int := [65,66,67,68,69,70,71,72,74,75,76,77,78,80,81,82,84,85,86,87,88,89,90,50,51,52,53,54,55,56,57]
theorem signB_len : signB.length = 31 := rfl
def worthFrom (c : Int) : Nat → List Int → Int
  | _, [] => -1
  | i, x :: l => if x = c then i else worthFrom c (i + 1) l
def worthT (c : Int) : Int := worthFrom c 0 signB
theorem worthFrom_bd (c : Int) : ∀ (i : Nat) (l : List Int), worthFrom c i l = -1 ∨ (i ≤ worthFrom c i l ∧ worthFrom c i l < i + l.length)
  | _, [] => .inl rfl
  | i, x :: l => by
    unfold worthFrom
    split
    · right; simp; omega
    · rcases worthFrom_bd c (i + 1) l with h | h
      · exact .inl h
      · right; simp; omega
theorem worth_bd (c : Int) : worthT c = -1 ∨ (0 ≤ worthT c ∧ worthT c < 31) := by
  have := worthFrom_bd c 0 signB
  rw [signB_len] at this
  unfold worthT
  omega
theorem worth_of {i : Nat} (h : i < 31) : worthT (signB.getD i 0) = i := by
  have : ∀ j : Fin 31, worthT (signB.getD j.val 0) = j.val := by decide
  exact this ⟨i, h⟩
theorem worth_from (c : Int) : ∀ (i : Nat) (l : List Int), (∀ k (hk : k < l.length), (∀ j (hj : j < k), l[j]'(by omega) ≠ c) → l[k] = c → worthFrom c i l = (i + k : Nat)) ∧ ((∀ x ∈ l, x ≠ c) → worthFrom c i l = -1)
  | i, [] => ⟨fun k hk => (by simp at hk), fun _ => rfl⟩
  | i, x :: l => by
    refine ⟨fun k hk hj he => ?_, fun h => ?_⟩
    · cases k with
      | zero => unfold worthFrom; rw [if_pos (by simpa using he)]; simp
      | succ n =>
        have h0 : x ≠ c := by simpa using hj 0 (by omega)
        unfold worthFrom
        rw [if_neg h0, (worth_from c (i + 1) l).1 n (by simp at hk; omega) (fun j hjn => by simpa using hj (j + 1) (by omega)) (by simpa using he)]
        omega
    · unfold worthFrom
      rw [if_neg (h x (by simp)), (worth_from c (i + 1) l).2 fun y hy => h y (by simp [hy])]
def locN (l : List Int) : Int := l.foldl (fun n d => n * 31 + d) 0
def wsum : Int → List Int → Int
  | _, [] => 0
  | k, d :: l => k * d + wsum (k + 1) l
theorem wsum_app (k : Int) (a b : List Int) : wsum k (a ++ b) = wsum k a + wsum (k + a.length) b := by
  induction a generalizing k with
  | nil => simp [wsum]
  | cons x a ih => simp only [List.cons_append, wsum, ih, List.length_cons]; rw [show k + 1 + (a.length : Int) = k + ((a.length + 1 : Nat) : Int) by omega]; omega
theorem locN_app (a : List Int) (d : Int) : locN (a ++ [d]) = locN a * 31 + d := by simp [locN]
def digs (n : Int) : List Int := [n / 923521 % 31, n / 29791 % 31, n / 961 % 31, n / 31 % 31, n % 31]
theorem digs_bd (n : Int) : ∀ d ∈ digs n, 0 ≤ d ∧ d < 31 := by
  intro d hd
  simp only [digs, List.mem_cons, List.not_mem_nil, or_false] at hd
  omega
theorem digs_n {n : Int} (h : 0 ≤ n ∧ n < 28629151) : locN (digs n) = n := by
  simp only [locN, digs, List.foldl]
  omega
def chkD (n : Int) : Int := (31 - wsum 2 (digs n) % 31) % 31
def signAt (d : Int) : Int := signB.getD d.toNat 0
theorem worth_sign {d : Int} (h : 0 ≤ d ∧ d < 31) : worthT (signAt d) = d := by
  unfold signAt
  rw [worth_of (by omega)]
  omega
def locB (n : Int) : List Int := (digs n ++ [chkD n]).map signAt
def locRd (bs : List Int) : Int × Int :=
  if bs.length ≠ 6 ∨ (∃ c ∈ bs, worthT c < 0) then (0, 6)
  else if (wsum 2 ((bs.take 5).map worthT) + worthT (bs.getD 5 0)) % 31 ≠ 0 then (0, 6)
  else (locN ((bs.take 5).map worthT), 0)
theorem signAt_bd {d : Int} (h : 0 ≤ d ∧ d < 31) : 0 ≤ signAt d ∧ signAt d < 128 := by
  have : ∀ j : Fin 31, 0 ≤ signB.getD j.val 0 ∧ signB.getD j.val 0 < 128 := by decide
  have h2 := this ⟨d.toNat, by omega⟩
  exact h2
theorem locB_len (n : Int) : (locB n).length = 6 := rfl
theorem chkD_bd (n : Int) : 0 ≤ chkD n ∧ chkD n < 31 := by unfold chkD; omega
theorem locB_bd (n : Int) : ∀ c ∈ locB n, 0 ≤ c ∧ c < 128 := by
  intro c hc
  obtain ⟨d, hd, rfl⟩ := List.mem_map.1 hc
  refine signAt_bd ?_
  rcases List.mem_append.1 hd with hd | hd
  · exact digs_bd n d hd
  · rw [List.mem_singleton.1 hd]; exact chkD_bd n
theorem map_worth {l : List Int} (h : ∀ d ∈ l, 0 ≤ d ∧ d < 31) : (l.map signAt).map worthT = l := by
  induction l with
  | nil => rfl
  | cons a l ih => rw [List.map_cons, List.map_cons, worth_sign (h a (by simp)), ih fun d hd => h d (by simp [hd])]
theorem loc_back {n : Int} (h : 0 ≤ n ∧ n < 28629151) : locRd (locB n) = (n, 0) := by
  have hd : ∀ d ∈ digs n ++ [chkD n], 0 ≤ d ∧ d < 31 := fun d hd => by
    rcases List.mem_append.1 hd with hd | hd
    · exact digs_bd n d hd
    · rw [List.mem_singleton.1 hd]; exact chkD_bd n
  unfold locRd
  rw [if_neg, if_neg]
  · show (locN (((digs n).map signAt).map worthT), (0 : Int)) = _
    rw [map_worth (digs_bd n), digs_n h]
  · show ¬ (wsum 2 (((digs n).map signAt).map worthT) + worthT (signAt (chkD n))) % 31 ≠ 0
    rw [map_worth (digs_bd n), worth_sign (chkD_bd n)]
    unfold chkD
    omega
  · rintro (h1 | ⟨c, hc, h1⟩)
    · exact h1 (locB_len n)
    · obtain ⟨d, hdm, rfl⟩ := List.mem_map.1 hc
      rw [worth_sign (hd d hdm)] at h1
      have := hd d hdm
      omega
theorem locF_bd : ∀ {l : List Int} {a : Int} {k : Nat}, (∀ d ∈ l, 0 ≤ d ∧ d < 31) → (0 ≤ a ∧ a < 31 ^ k) → 0 ≤ l.foldl (fun n d => n * 31 + d) a ∧ l.foldl (fun n d => n * 31 + d) a < 31 ^ (k + l.length)
  | [], _, _, _, h => h
  | d :: l, a, k, hd, h => by
    have h2 := hd d (by simp)
    have h3 := locF_bd (l := l) (a := a * 31 + d) (k := k + 1) (fun x hx => hd x (by simp [hx])) (by rw [Int.pow_succ]; omega)
    rw [List.length_cons, show k + (l.length + 1) = k + 1 + l.length by omega]
    exact h3
theorem locN_bd {l : List Int} (h : ∀ d ∈ l, 0 ≤ d ∧ d < 31) : 0 ≤ locN l ∧ locN l < 31 ^ l.length := by
  have := locF_bd (a := 0) (k := 0) h ⟨by omega, by simp⟩
  rw [Nat.zero_add] at this
  exact this
end Go.VC
/- Commands and replies as bytes, plainly: there and back. No condition. -/
namespace Go.Proofs.YtfgbbckfikiomaaGreatDoor
set_option linter.unusedVariables false
open Go Go.VC
def rdEach {α : Type} (one : Rd → α × Rd) : Nat → Rd → List α × Rd
  | 0, r => ([], r)
  | n + 1, r => ((one r).1 :: (rdEach one n (one r).2).1, (rdEach one n (one r).2).2)
theorem rdEach_succ {α : Type} (one : Rd → α × Rd) (n : Nat) (r : Rd) : rdEach one (n + 1) r = ((one r).1 :: (rdEach one n (one r).2).1, (rdEach one n (one r).2).2) := rfl
theorem rdEach_len {α : Type} (one : Rd → α × Rd) : ∀ (n : Nat) (r : Rd), (rdEach one n r).1.length = n
  | 0, _ => rfl
  | n + 1, r => by rw [rdEach_succ, List.length_cons, rdEach_len one n]
theorem rdEach_inv {α : Type} {one : Rd → α × Rd} {P : Rd → Prop} {Q : α → Prop} (h : ∀ r, P r → Q (one r).1 ∧ P (one r).2) : ∀ (n : Nat) {r : Rd}, P r → (∀ x ∈ (rdEach one n r).1, Q x) ∧ P (rdEach one n r).2
  | 0, _, hr => ⟨fun _ hx => (by cases hx), hr⟩
  | n + 1, r, hr => by
    have h1 := h r hr
    have h2 := rdEach_inv h n h1.2
    refine ⟨fun x hx => ?_, h2.2⟩
    rcases List.mem_cons.1 hx with rfl | hx
    · exact h1.1
    · exact h2.1 x hx
def Bytes (l : List Int) : Prop := ∀ x ∈ l, 0 ≤ x ∧ x < 256
def fltRd (r : Rd) : Nat × Rd := (ofF (rdNum 18446744073709551615 r).1.toNat, (rdNum 18446744073709551615 r).2)
theorem fltRd_bd {rd : Rd} (hb : Bytes rd.bs) : Bytes (fltRd rd).2.bs := rdNum_bd hb
theorem fltRd_lt {rd : Rd} (hb : Bytes rd.bs) : (fltRd rd).1 < 18446744073709551616 := by
  have := rdNum_val (most := 18446744073709551615) hb (by omega)
  exact of_lt (by omega)
structure Cm where
  kind : Int
  pnr : ByteArray
  flt : Int
  cls : Int
  many : Int
  time : Int
  sc : Nat
  lab : ByteArray
  rows : Int
  grps : List Int
  parts : List Nat
def numOk (n : Int) : Prop := 0 ≤ n ∧ n ≤ 9999
structure RightC (c : Cm) : Prop where
  flt : numOk c.flt
  cls : numOk c.cls
  many : numOk c.many
  rows : numOk c.rows
  grps : ∀ n ∈ c.grps, numOk n
  pnr : c.pnr.size ≤ 16
  lab : c.lab.size ≤ 16
  gl : c.grps.length ≤ 16
  pl : c.parts.length ≤ 16
  kind : 1 ≤ c.kind ∧ c.kind ≤ 9
  time : 0 ≤ c.time ∧ c.time ≤ 1099511627776
structure FltC (c : Cm) : Prop where
  sc : c.sc < 18446744073709551616
  parts : ∀ x ∈ c.parts, x < 18446744073709551616
structure Rp where
  code : Int
  pnr : ByteArray
  state : Int
  flt : Int
  cls : Int
  many : Int
  time : Int
  left : List Int
  labs : List ByteArray
def nn (n : Int) : Int := max n 0
structure RpIn (r : Rp) : Prop where
  code : 0 ≤ r.code ∧ r.code ≤ 1099511627776
  pnr : r.pnr.size ≤ 16
  state : 0 ≤ r.state ∧ r.state ≤ 1099511627776
  flt : 0 ≤ r.flt ∧ r.flt ≤ 1099511627776
  cls : 0 ≤ r.cls ∧ r.cls ≤ 1099511627776
  many : 0 ≤ r.many ∧ r.many ≤ 1099511627776
  time : 0 ≤ r.time ∧ r.time ≤ 1099511627776
  ll : r.left.length ≤ 8
  left : ∀ n ∈ r.left, 0 ≤ n ∧ n ≤ 1099511627776
  bl : r.labs.length ≤ 600
  labs : ∀ s ∈ r.labs, s.size ≤ 16
end Go.Proofs.YtfgbbckfikiomaaGreatDoor
/- Lists by keys. No condition. -/
namespace Go.VC
set_option linter.unusedVariables false
section
variable {α : Type} {k : α → Int}
def KRise (k : α → Int) (l : List α) : Prop := l.Pairwise fun a b => k a < k b
def kget (k : α → Int) (n : Int) (l : List α) : Option α := l.find? fun x => decide (k x = n)
def kset (k : α → Int) (n : Int) (f : α → α) (l : List α) : List α := l.map fun x => if k x = n then f x else x
def kdel (k : α → Int) (n : Int) (l : List α) : List α := l.filter fun x => !decide (k x = n)
def kins (k : α → Int) (x : α) (l : List α) : List α := l.takeWhile (fun y => decide (k y < k x)) ++ x :: l.dropWhile (fun y => decide (k y < k x))
theorem KRise.uniq {l : List α} (h : KRise k l) {a b : α} (ha : a ∈ l) (hb : b ∈ l) (e : k a = k b) : a = b := by
  induction l with
  | nil => cases ha
  | cons x l ih =>
    have hp := List.pairwise_cons.1 h
    rcases List.mem_cons.1 ha with e1 | h1
    · rcases List.mem_cons.1 hb with e2 | h2
      · rw [e1, e2]
      · have := hp.1 b h2; rw [e1] at e; omega
    · rcases List.mem_cons.1 hb with e2 | h2
      · have := hp.1 a h1; rw [e2] at e; omega
      · exact ih hp.2 h1 h2
theorem kget_some {n : Int} {l : List α} {x : α} (h : kget k n l = some x) : x ∈ l ∧ k x = n :=
  ⟨List.mem_of_find?_eq_some h, by have := List.find?_some h; simpa using this⟩
theorem kget_none {n : Int} {l : List α} : kget k n l = none ↔ ∀ x ∈ l, k x ≠ n := by
  unfold kget
  rw [List.find?_eq_none]
  simp
theorem kget_iff {n : Int} {l : List α} (h : KRise k l) {x : α} : kget k n l = some x ↔ x ∈ l ∧ k x = n := by
  refine ⟨kget_some, fun ⟨h1, h2⟩ => ?_⟩
  cases hg : kget k n l with
  | none => exact absurd h2 (kget_none.1 hg x h1)
  | some y =>
    have := kget_some hg
    rw [h.uniq this.1 h1 (by omega)]
theorem mem_kset {n : Int} {f : α → α} {l : List α} {y : α} : y ∈ kset k n f l ↔ ∃ x ∈ l, y = if k x = n then f x else x := by
  unfold kset
  rw [List.mem_map]
  exact ⟨fun ⟨x, h1, h2⟩ => ⟨x, h1, h2.symm⟩, fun ⟨x, h1, h2⟩ => ⟨x, h1, h2.symm⟩⟩
theorem mem_kdel {n : Int} {l : List α} {y : α} : y ∈ kdel k n l ↔ y ∈ l ∧ k y ≠ n := by
  unfold kdel
  rw [List.mem_filter]
  simp
theorem kset_len {n : Int} {f : α → α} {l : List α} : (kset k n f l).length = l.length := List.length_map _
theorem kset_rise {n : Int} {f : α → α} {l : List α} (h : KRise k l) (hf : ∀ x ∈ l, k x = n → k (f x) = n) : KRise k (kset k n f l) := by
  unfold KRise kset
  rw [List.pairwise_map]
  refine List.Pairwise.imp_of_mem (fun {a b} ha hb hab => ?_) h
  have h1 : k (if k a = n then f a else a) = k a := by
    split
    · rename_i e; rw [hf a ha e, e]
    · rfl
  have h2 : k (if k b = n then f b else b) = k b := by
    split
    · rename_i e; rw [hf b hb e, e]
    · rfl
  rw [h1, h2]
  exact hab
theorem kdel_rise {n : Int} {l : List α} (h : KRise k l) : KRise k (kdel k n l) := h.sublist List.filter_sublist
theorem kset_no {n : Int} {f : α → α} {l : List α} (h : ∀ x ∈ l, k x ≠ n) : kset k n f l = l := by
  induction l with
  | nil => rfl
  | cons a l ih =>
    show (if k a = n then f a else a) :: kset k n f l = _
    rw [if_neg (h a (by simp)), ih fun x hx => h x (by simp [hx])]
theorem kdel_no {n : Int} {l : List α} (h : ∀ x ∈ l, k x ≠ n) : kdel k n l = l := by
  unfold kdel
  rw [List.filter_eq_self]
  intro x hx
  simpa using h x hx
theorem kset_mid {n : Int} {f : α → α} {A C : List α} {x : α} (hx : k x = n) (h : KRise k (A ++ x :: C)) : kset k n f (A ++ x :: C) = A ++ f x :: C := by
  have hp := List.pairwise_append.1 h
  have hc := List.pairwise_cons.1 hp.2.1
  have e1 : kset k n f A = A := kset_no fun y hy => by have := hp.2.2 y hy x (by simp); omega
  have e2 : kset k n f C = C := kset_no fun y hy => by have := hc.1 y hy; omega
  show List.map _ (A ++ x :: C) = _
  rw [List.map_append, List.map_cons, if_pos hx]
  show kset k n f A ++ f x :: kset k n f C = _
  rw [e1, e2]
theorem kdel_mid {n : Int} {A C : List α} {x : α} (hx : k x = n) (h : KRise k (A ++ x :: C)) : kdel k n (A ++ x :: C) = A ++ C := by
  have hp := List.pairwise_append.1 h
  have hc := List.pairwise_cons.1 hp.2.1
  have e1 : kdel k n A = A := kdel_no fun y hy => by have := hp.2.2 y hy x (by simp); omega
  have e2 : kdel k n C = C := kdel_no fun y hy => by have := hc.1 y hy; omega
  show List.filter _ (A ++ x :: C) = _
  rw [List.filter_append, List.filter_cons, if_neg (by simpa using hx)]
  show kdel k n A ++ kdel k n C = _
  rw [e1, e2]
theorem kins_cons (x a : α) (l : List α) : kins k x (a :: l) = if k a < k x then a :: kins k x l else x :: a :: l := by
  unfold kins
  rw [List.takeWhile_cons, List.dropWhile_cons]
  by_cases h : k a < k x
  · rw [decide_eq_true h, if_pos h]; rfl
  · rw [decide_eq_false h, if_neg h]; rfl
theorem mem_kins {x y : α} : ∀ {l : List α}, y ∈ kins k x l ↔ y = x ∨ y ∈ l
  | [] => by simp [kins]
  | a :: l => by
    rw [kins_cons]
    split
    · rw [List.mem_cons, mem_kins, List.mem_cons]
      constructor
      · rintro (h | h | h) <;> simp [h]
      · rintro (h | h | h) <;> simp [h]
    · rw [List.mem_cons]
theorem kins_len {x : α} : ∀ {l : List α}, (kins k x l).length = l.length + 1
  | [] => rfl
  | a :: l => by
    rw [kins_cons]
    split
    · rw [List.length_cons, kins_len, List.length_cons]
    · rfl
theorem kins_rise {x : α} : ∀ {l : List α}, KRise k l → (∀ y ∈ l, k y ≠ k x) → KRise k (kins k x l)
  | [], _, _ => List.Pairwise.cons (fun _ h => (by cases h)) List.Pairwise.nil
  | a :: l, h, hn => by
    have hp := List.pairwise_cons.1 h
    rw [kins_cons]
    split
    · rename_i ha
      refine List.Pairwise.cons (fun y hy => ?_) (kins_rise hp.2 fun y hy => hn y (by simp [hy]))
      rcases mem_kins.1 hy with rfl | hy
      · exact ha
      · exact hp.1 y hy
    · rename_i ha
      have := hn a (by simp)
      refine List.Pairwise.cons (fun y hy => ?_) h
      rcases List.mem_cons.1 hy with rfl | hy
      · omega
      · have := hp.1 y hy; omega
theorem kins_perm {x : α} : ∀ {l : List α}, (kins k x l).Perm (x :: l)
  | [] => List.Perm.refl _
  | a :: l => by
    rw [kins_cons]
    split
    · exact (kins_perm.cons a).trans (List.Perm.swap x a l)
    · exact List.Perm.refl _
theorem krise_snoc {l : List α} {x : α} (h : KRise k l) (hx : ∀ y ∈ l, k y < k x) : KRise k (l ++ [x]) := by
  refine List.pairwise_append.2 ⟨h, List.pairwise_singleton _ _, fun a ha b hb => ?_⟩
  rw [List.mem_singleton.1 hb]
  exact hx a ha
theorem KRise.ne {l : List α} (h : KRise k l) : l.Pairwise fun a b => k a ≠ k b := h.imp fun hab e => by omega
end
end Go.VC

/- Who waits, as bytes: there and back; what Decode tells. No condition. -/
namespace Go.Proofs.YtfgbbckfikiomaaGreatDoor
set_option linter.unusedVariables false
open Go Go.VC
def wtRd (r : Rd) : Wt × Rd :=
  let a := rdNum 28629151 r
  let b := rdNum 7 a.2
  let c := rdNum 600 b.2
  let d := rdNum 1099511627776 c.2
  let e := fltRd d.2
  (⟨a.1, b.1, c.1, d.1, e.1⟩, e.2)
theorem wtRd_bd {r : Rd} (hb : Bytes r.bs) : Bytes (wtRd r).2.bs := fltRd_bd (rdNum_bd (rdNum_bd (rdNum_bd (rdNum_bd hb))))
theorem wtRd_fl {r : Rd} (hb : Bytes r.bs) : (wtRd r).1.sc < 18446744073709551616 := fltRd_lt (rdNum_bd (rdNum_bd (rdNum_bd (rdNum_bd hb))))
structure QRight (q : List Wt) : Prop where
  st : QSt q
  ids : QIds q
  ok : ∀ w ∈ q, w.Ok
theorem QRight.pre {a b : List Wt} (h : QRight (a ++ b)) : QRight a :=
  ⟨(List.pairwise_append.1 h.st).1, (List.pairwise_append.1 h.ids).1, fun w hw => h.ok w (by simp [hw])⟩
theorem QRight.nil : QRight [] := ⟨List.Pairwise.nil, List.Pairwise.nil, fun _ h => (by cases h)⟩
theorem QRight.snoc {q : List Wt} {w : Wt} (h : QRight q) (hw : w.Ok) (hi : ∀ x ∈ q, x.id ≠ w.id) (ha : ∀ x ∈ q, x.ahead w = true) : QRight (q ++ [w]) := by
  refine ⟨List.pairwise_append.2 ⟨h.st, List.pairwise_singleton _ _, fun a ha' b hb => ?_⟩, List.pairwise_append.2 ⟨h.ids, List.pairwise_singleton _ _, fun a ha' b hb => ?_⟩, fun x hx => ?_⟩
  · rw [List.mem_singleton.1 hb]; exact ha a ha'
  · rw [List.mem_singleton.1 hb]; exact hi a ha'
  · rcases List.mem_append.1 hx with hx | hx
    · exact h.ok x hx
    · rw [List.mem_singleton.1 hx]; exact hw
theorem QRight.last {q : List Wt} {w : Wt} (h : QRight (q ++ [w])) : w.Ok ∧ (∀ x ∈ q, x.id ≠ w.id) ∧ ∀ x ∈ q, x.ahead w = true :=
  ⟨h.ok w (by simp), fun x hx => (List.pairwise_append.1 h.ids).2.2 x hx w (by simp), fun x hx => (List.pairwise_append.1 h.st).2.2 x hx w (by simp)⟩
def qRaw (bs : List Int) : List Wt × Rd := rdEach wtRd (rdNum 200 ⟨bs, false⟩).1.toNat (rdNum 200 ⟨bs, false⟩).2
def QDec (bs : List Int) : Prop := rdWhole (qRaw bs).2 = true ∧ QRight (qRaw bs).1
theorem qRaw_bd {bs : List Int} (hb : Bytes bs) : (∀ w ∈ (qRaw bs).1, w.sc < 18446744073709551616) ∧ Bytes (qRaw bs).2.bs :=
  rdEach_inv (one := wtRd) (P := fun r => Bytes r.bs) (Q := fun w => w.sc < 18446744073709551616) (fun _ hr => ⟨wtRd_fl hr, wtRd_bd hr⟩) (rdNum 200 ⟨bs, false⟩).1.toNat (r := (rdNum 200 ⟨bs, false⟩).2) (rdNum_bd (rd := ⟨bs, false⟩) hb)
theorem qRaw_len {bs : List Int} (hb : Bytes bs) : (qRaw bs).1.length ≤ 200 := by
  have := rdNum_val (most := 200) (rd := ⟨bs, false⟩) hb (by omega)
  show (rdEach wtRd _ _).1.length ≤ 200
  rw [rdEach_len]
  omega
theorem QDec.ok {bs : List Int} (hb : Bytes bs) (h : QDec bs) : QOk (qRaw bs).1 := ⟨h.2.st, h.2.ids, h.2.ok, (qRaw_bd hb).1, qRaw_len hb⟩
end Go.Proofs.YtfgbbckfikiomaaGreatDoor
/- Both flights side by side: fresh, awake, few, do, alike. Condition: bounds. -/
namespace Go.Proofs.YtfgbbckfikiomaaGreatDoor
set_option linter.unusedVariables false
open Go Go.VC
variable {R R' : Cx} {Hs Rest : List HP} {w : World}
def PairAt (p q : Nat) (r : RF) : HP := exs fun f : PF => Star [pur (Tie f r ∧ Good r), FlightAt p f, RFAt q r]
theorem Sat.pair {p q : Nat} {r : RF} : Sat R (PairAt p q r :: Hs) w ↔ ∃ f, (Tie f r ∧ Good r) ∧ Sat R (FlightAt p f :: RFAt q r :: Hs) w := by
  unfold PairAt
  rw [Sat.exs]
  constructor
  · rintro ⟨f, h⟩
    obtain ⟨h1, h2⟩ := Sat.pur.1 (Sat.star.1 h)
    exact ⟨f, h1, h2⟩
  · rintro ⟨f, h1, h2⟩
    exact ⟨f, Sat.star.2 (Sat.pur.2 ⟨h1, h2⟩)⟩
theorem Good.hL {r : RF} (g : Good r) : r.L.length ≤ 1000000 := by have := g.len.1; omega
theorem find_in {n : Int} {g : List Int} {lab : ByteArray} {k : Int} (h : findT n g lab = (k, 0)) : 0 ≤ k ∧ k < layN n g := by
  unfold findT at h
  split at h
  · rename_i hl
    obtain ⟨l1, l2, l3⟩ := layOk_iff.1 hl
    have := (find_iff (n := n) (w := g.sum) (k := k) (lab := lab) (by omega) (sum_pos l2 l1.2.2.1) l3).1 h
    rw [layN_ok hl]
    exact ⟨this.1, this.2.1⟩
  · cases h
structure StepL where
  d : Int
  owner : Int
  cls : Int
  many : Int
  label : ByteArray
end Go.Proofs.YtfgbbckfikiomaaGreatDoor
/- The program's flight alone, told by the document's; alike; how the laws begin. Condition: bounds. -/
namespace Go.Proofs.YtfgbbckfikiomaaGreatDoor
set_option linter.unusedVariables false
open Go Go.VC
variable {R R' : Cx} {Hs Rest : List HP} {w : World}
def LoneAt (p : Nat) (r : RF) : HP := exs fun f : PF => Star [pur (Tie f r ∧ Good r), FlightAt p f]
theorem Sat.lone {p : Nat} {r : RF} : Sat R (LoneAt p r :: Hs) w ↔ ∃ f, (Tie f r ∧ Good r) ∧ Sat R (FlightAt p f :: Hs) w := by
  unfold LoneAt
  rw [Sat.exs]
  constructor
  · rintro ⟨f, h⟩
    obtain ⟨h1, h2⟩ := Sat.pur.1 (Sat.star.1 h)
    exact ⟨f, h1, h2⟩
  · rintro ⟨f, h1, h2⟩
    exact ⟨f, Sat.star.2 (Sat.pur.2 ⟨h1, h2⟩)⟩
theorem PairAt.open {p q : Nat} {r : RF} (hw : Sat R (PairAt p q r :: Hs) w) : Good r ∧ Sat R (LoneAt p r :: RFAt q r :: Hs) w := by
  obtain ⟨f, h, hw⟩ := Sat.pair.1 hw
  exact ⟨h.2, Sat.lone.2 ⟨f, h, hw⟩⟩
theorem PairAt.close {p q : Nat} {r : RF} (hw : Sat R (LoneAt p r :: RFAt q r :: Hs) w) : Sat R (PairAt p q r :: Hs) w := by
  obtain ⟨f, h, hw⟩ := Sat.lone.1 hw
  exact Sat.pair.2 ⟨f, h, hw⟩
section
variable {p : Nat} {r : RF}
theorem lone_take {o c m : Int} (hw : Sat R (LoneAt p r :: Hs) w) : Gets Tryz.prog 112 #[.pointer (some ⟨p, 0, none⟩), .int .i64 o, .int .i64 c, .int .i64 m] w fun v w' => v = .int .i64 (rtakeF r o c m).2 ∧ Sat R (LoneAt p (rtakeF r o c m).1 :: Hs) w' := by
  obtain ⟨f, ⟨t, g⟩, hw⟩ := Sat.lone.1 hw
  have b := t.bounds g
  obtain ⟨e, t', g'⟩ := tie_take t g o c m
  refine (take_fspec (by omega) (by omega) hw).use ?_
  rintro _ w ⟨rfl, hw⟩
  exact ⟨_, rfl, by rw [e], Sat.lone.2 ⟨_, ⟨t', g'⟩, hw⟩⟩
theorem lone_give {o : Int} (hw : Sat R (LoneAt p r :: Hs) w) : Gets Tryz.prog 115 #[.pointer (some ⟨p, 0, none⟩), .int .i64 o] w fun v w' => v = .int .i64 (rgiveF r o).2 ∧ Sat R (LoneAt p (rgiveF r o).1 :: Hs) w' := by
  obtain ⟨f, ⟨t, g⟩, hw⟩ := Sat.lone.1 hw
  have b := t.bounds g
  obtain ⟨e, t', g'⟩ := tie_give t g o
  refine (give_fspec (by omega) (by omega) (fun e he => by have := b.2.2.2.2.2.1 e he; omega) hw).use ?_
  rintro _ w ⟨rfl, hw⟩
  exact ⟨_, rfl, by rw [e], Sat.lone.2 ⟨_, ⟨t', g'⟩, hw⟩⟩
theorem lone_seat {o : Int} {lab : ByteArray} (hl : lab.size ≤ 9223372036854775807) (hw : Sat R (LoneAt p r :: Hs) w) : Gets Tryz.prog 117 #[.pointer (some ⟨p, 0, none⟩), .int .i64 o, .string lab] w fun v w' => v = .int .i64 (rseatF r o lab).2 ∧ Sat R (LoneAt p (rseatF r o lab).1 :: Hs) w' := by
  obtain ⟨f, ⟨t, g⟩, hw⟩ := Sat.lone.1 hw
  have b := t.bounds g
  obtain ⟨e, t', g'⟩ := tie_seat t g o lab fun k hk => find_in hk
  refine (seat_fspec (by omega) hl (fun e he => by have := b.2.2.2.2.2.1 e he; exact ⟨this.1, by omega⟩) hw).use ?_
  rintro _ w ⟨rfl, hw⟩
  exact ⟨_, rfl, by rw [e], Sat.lone.2 ⟨_, ⟨t', g'⟩, hw⟩⟩
theorem lone_auto {o : Int} (hw : Sat R (LoneAt p r :: Hs) w) : Gets Tryz.prog 118 #[.pointer (some ⟨p, 0, none⟩), .int .i64 o] w fun v w' => ∃ t : Sl, v = .tuple #[.slice t.a t.len t.cap, .int .i64 (rautoF r o).2.2] ∧ Sat R (Own t 9 ((rautoF r o).2.1.map Value.string) :: LoneAt p (rautoF r o).1 :: Hs) w' := by
  obtain ⟨f, ⟨t, g⟩, hw⟩ := Sat.lone.1 hw
  have b := t.bounds g
  obtain ⟨e, t', g', _⟩ := tie_auto t g o
  refine (auto_fspec (by omega) t.nod (fun k hk => by have := t.ownIn g k hk; have := layN_bd r.rows r.grps; omega) (by omega) hw).use ?_
  rintro _ w ⟨s, rfl, hw⟩
  rw [e] at hw
  exact ⟨_, rfl, s, by rw [e], hw.cons fun _ h => Sat.lone.2 ⟨_, ⟨t', g'⟩, h⟩⟩
theorem lone_left (hw : Sat R (LoneAt p r :: Hs) w) : Gets Tryz.prog 58 #[.pointer (some ⟨p, 0, none⟩)] w fun v w' => ∃ t : Sl, v = .slice t.a t.len t.cap ∧ Sat R (Own t 3 (intsI (rleftsF r)) :: LoneAt p r :: Hs) w' := by
  obtain ⟨f, ⟨t, g⟩, hw⟩ := Sat.lone.1 hw
  have b := t.bounds g
  refine (left_fspec (by omega) (by omega) hw).use ?_
  rintro _ w ⟨s, rfl, hw⟩
  rw [tie_left t] at hw
  exact ⟨_, rfl, s, rfl, hw.cons fun _ h => Sat.lone.2 ⟨_, ⟨t, g⟩, h⟩⟩
theorem lone_labels {o : Int} (hw : Sat R (LoneAt p r :: Hs) w) : Gets Tryz.prog 130 #[.pointer (some ⟨p, 0, none⟩), .int .i64 o] w fun v w' => ∃ t : Sl, v = .slice t.a t.len t.cap ∧ Sat R (Own t 9 ((rlabelsF r o).map Value.string) :: LoneAt p r :: Hs) w' := by
  obtain ⟨f, ⟨t, g⟩, hw⟩ := Sat.lone.1 hw
  have b := t.bounds g
  refine (labels_fspec (by omega) (fun e he => by have := b.2.2.2.2.2.1 e he; omega) hw).use ?_
  rintro _ w ⟨s, rfl, hw⟩
  rw [tie_labels t g.rise] at hw
  exact ⟨_, rfl, s, rfl, hw.cons fun _ h => Sat.lone.2 ⟨_, ⟨t, g⟩, h⟩⟩
end
end Go.Proofs.YtfgbbckfikiomaaGreatDoor


/- FlightUnseats, FlightBack. Condition: bounds. -/
namespace Go.Proofs.YtfgbbckfikiomaaGreatDoor
set_option linter.unusedVariables false
open Go Go.VC
variable {R R' : Cx} {Hs Rest : List HP} {w : World}
theorem seat_ok {r : RF} (g : Good r) {o : Int} {lab : ByteArray} (h : (rseatF r o lab).2 = 0) : ∃ A hd C n, findT r.rows r.grps lab = (n, 0) ∧ r.L = A ++ hd :: C ∧ hd.owner = o ∧ getO o A = none ∧ n ∉ takenL r.L ∧ rseatF r o lab = ({ r with L := A ++ hd.put n :: C }, 0) := by
  unfold rseatF at h ⊢
  cases hg : getO o r.L with
  | none => rw [hg] at h; cases h
  | some hd =>
    rw [hg] at h
    obtain ⟨A, C, hL, hA, ho⟩ := getO_split hg
    dsimp only at h ⊢
    split at h
    · cases h
    rename_i h1
    split at h
    · cases h
    rename_i h2
    split at h
    · cases h
    rename_i h3
    rw [if_neg h1, if_neg h2, if_neg h3]
    refine ⟨A, hd, C, (findT r.rows r.grps lab).1, ?_, hL, ho, hA, h3, ?_⟩
    · have : (findT r.rows r.grps lab).2 = 0 := Classical.byContradiction h1
      rw [← this]
    · rw [hL, setO_app ho hA]
theorem seat_no {r : RF} {o : Int} {lab : ByteArray} (h : (rseatF r o lab).2 ≠ 0) : (rseatF r o lab).1 = r ∧ ((rseatF r o lab).2 = 2 ∨ (rseatF r o lab).2 = 7 ∨ (rseatF r o lab).2 = 3) := by
  unfold rseatF at h ⊢
  split at h
  · exact ⟨rfl, .inl rfl⟩
  · split at h
    · rename_i h1; rw [if_pos h1]; exact ⟨rfl, .inl rfl⟩
    rename_i h1
    rw [if_neg h1]
    split at h
    · rename_i h2; rw [if_pos h2]; exact ⟨rfl, .inr (.inl rfl)⟩
    rename_i h2
    rw [if_neg h2]
    split at h
    · rename_i h3; rw [if_pos h3]; exact ⟨rfl, .inr (.inr rfl)⟩
    · exact absurd rfl h
theorem insH_split {h : Hold} : ∀ {L : List Hold}, getO h.owner L = none → ∃ A C, insH h L = A ++ h :: C ∧ L = A ++ C ∧ getO h.owner A = none
  | [], _ => ⟨[], [], rfl, rfl, rfl⟩
  | x :: L, hn => by
    rw [getO_cons] at hn
    split at hn
    · cases hn
    rename_i hx
    unfold insH
    split
    · obtain ⟨A, C, h1, h2, h3⟩ := insH_split hn
      exact ⟨x :: A, C, by rw [h1]; rfl, by rw [h2]; rfl, by rw [getO_cons, if_neg hx]; exact h3⟩
    · exact ⟨[], x :: L, rfl, rfl, rfl⟩
theorem take_ok {r : RF} {o c m : Int} (h : (rtakeF r o c m).2 = 0) : ∃ A C, rtakeF r o c m = ({ r with L := A ++ ⟨o, c, m, []⟩ :: C }, 0) ∧ r.L = A ++ C ∧ getO o A = none := by
  unfold rtakeF at h ⊢
  split at h
  · cases h
  rename_i h1
  split at h
  · cases h
  rename_i h2
  rw [if_neg h1, if_neg h2]
  split at h
  · rename_i h3
    rw [if_pos h3]
    have hno : getO o r.L = none := by cases e : getO o r.L with | none => rfl | some x => rw [e] at h2; simp at h2
    obtain ⟨A, C, e1, e2, e3⟩ := insH_split (h := ⟨o, c, m, []⟩) hno
    exact ⟨A, C, by rw [e1], e2, e3⟩
  · rename_i h3; exact absurd h h3
theorem take_no {r : RF} {o c m : Int} (h : (rtakeF r o c m).2 ≠ 0) : (rtakeF r o c m).1 = r := by
  unfold rtakeF at h ⊢
  split at h
  · rename_i h1; rw [if_pos h1]
  rename_i h1
  rw [if_neg h1]
  split at h
  · rename_i h2; rw [if_pos h2]
  rename_i h2
  rw [if_neg h2]
  split at h
  · exact absurd rfl h
  · rename_i h3; rw [if_neg h3]
end Go.Proofs.YtfgbbckfikiomaaGreatDoor
/- The book, plainly: what each command does. No condition. -/
namespace Go.Proofs.YtfgbbckfikiomaaGreatDoor
set_option linter.unusedVariables false
open Go Go.VC
open scoped Classical
noncomputable section
structure Pl where
  r : RF
  q : List Wt
abbrev Pl.n (p : Pl) : Int := p.r.num
structure Bk where
  id : Int
  flt : Int
  cls : Int
  many : Int
  state : Int
  till : Int
structure Book where
  now : Int
  next : Int
  fl : List Pl
  L : List Bk
def Book.at (b : Book) (n : Int) : Option Pl := kget Pl.n n b.fl
def Book.bk (b : Book) (id : Int) : Option Bk := kget Bk.id id b.L
def Book.put (b : Book) (n : Int) (f : Pl → Pl) (L : List Bk) : Book := { b with fl := kset Pl.n n f b.fl, L := L }
def newBook : Book := ⟨0, 1, [], []⟩
def emS : ByteArray := ByteArray.empty
def errR (e : Int) : Rp := ⟨e, emS, 0, 0, 0, 0, 0, [], []⟩
def locS (id : Int) : ByteArray := VC.strOf (locB id)
def tellP (p : Pl) (x : Bk) : Rp := ⟨0, locS x.id, x.state, x.flt, x.cls, x.many, x.till, rleftsF p.r, rlabelsF p.r x.id⟩
def tellB (b : Book) (x : Bk) : Rp := match b.at x.flt with
  | none => errR 0
  | some p => tellP p x
def takeW (w : Wt) (p : Pl) : Pl := ⟨(rtakeF p.r w.id w.cls w.many).1, delQ w.id p.q⟩
def bookX (x : Bk) : Bk := { x with state := 2 }
def moveB (b : Book) (n : Int) (w : Wt) : Book := b.put n (takeW w) (kset Bk.id w.id bookX b.L)
def promB : Nat → Int → Book → Book
  | 0, _, b => b
  | k + 1, n, b => match b.at n with
    | none => b
    | some p => match qfirst p.q (rleftsF p.r) with
      | none => b
      | some w => promB k n (moveB b n w)
def promote (n : Int) (b : Book) : Book := promB 201 n b
def openB (b : Book) (c : Cm) : Book × Rp :=
  if (b.at c.flt).isSome then (b, errR 7) else if 8 ≤ b.fl.length then (b, errR 3)
  else if ¬ newOk c.flt c.rows c.grps c.parts then (b, errR 1)
  else ({ b with fl := kins Pl.n ⟨rnewF c.flt c.rows c.grps (limitsT (layN c.rows c.grps) c.parts).1, []⟩ b.fl },
    ⟨0, emS, 0, c.flt, 0, 0, 0, rleftsF (rnewF c.flt c.rows c.grps (limitsT (layN c.rows c.grps) c.parts).1), []⟩)
def Book.full (b : Book) : Prop := 300 ≤ b.L.length ∨ 28629151 ≤ b.next
def takeP (id cls many : Int) (p : Pl) : Pl := { p with r := (rtakeF p.r id cls many).1 }
def heldX (b : Book) (c : Cm) : Bk := ⟨b.next, c.flt, c.cls, c.many, 1, c.time⟩
def heldB (b : Book) (c : Cm) : Book × Rp :=
  match b.at c.flt with
  | none => (b, errR 2)
  | some p =>
    if c.time ≤ b.now then (b, errR 1) else if b.full then (b, errR 3)
    else if (rtakeF p.r b.next c.cls c.many).2 ≠ 0 then (b, errR (rtakeF p.r b.next c.cls c.many).2)
    else ({ b.put c.flt (takeP b.next c.cls c.many) (b.L ++ [heldX b c]) with next := b.next + 1 }, tellP (takeP b.next c.cls c.many p) (heldX b c))
def waitW (b : Book) (c : Cm) : Wt := ⟨b.next, c.cls, c.many, b.now, c.sc⟩
def waitX (b : Book) (c : Cm) : Bk := ⟨b.next, c.flt, c.cls, c.many, 3, 0⟩
def waitP (w : Wt) (p : Pl) : Pl := { p with q := insQ w p.q }
def queued (b : Book) (c : Cm) : Book := { b.put c.flt (waitP (waitW b c)) (b.L ++ [waitX b c]) with next := b.next + 1 }
def waitB (b : Book) (c : Cm) : Book × Rp :=
  match b.at c.flt with
  | none => (b, errR 2)
  | some p =>
    if (p.r.lims.length : Int) ≤ c.cls then (b, errR 1) else if b.full then (b, errR 3)
    else if (qadd p.q (waitW b c)).2 ≠ 0 then (b, errR (qadd p.q (waitW b c)).2)
    else (promote c.flt (queued b c), match (promote c.flt (queued b c)).bk b.next with
      | none => errR 0
      | some x => tellB (promote c.flt (queued b c)) x)
def old (now : Int) (x : Bk) : Bool := decide (x.state = 1) && decide (x.till ≤ now)
def giveP (id : Int) (p : Pl) : Pl := { p with r := (rgiveF p.r id).1 }
def dropB (b : Book) (x : Bk) : Book := b.put x.flt (giveP x.id) (kdel Bk.id x.id b.L)
def expAll : List Bk → Book → Book
  | [], b => b
  | x :: l, b => expAll l (if old b.now x then dropB b x else b)
def promAll (l : List Int) (b : Book) : Book := l.foldl (fun b n => promote n b) b
def ticked (b : Book) (t : Int) : Book := expAll b.L { b with now := t }
def clockB (b : Book) (c : Cm) : Book × Rp :=
  if c.time < b.now then (b, errR 7)
  else (promAll (b.fl.map Pl.n) (ticked b c.time), ⟨0, emS, 0, 0, 0, 0, c.time, [], []⟩)
def namedB (b : Book) (pnr : ByteArray) : Option Bk × Int :=
  if (locRd (bytesL pnr)).2 ≠ 0 then (none, (locRd (bytesL pnr)).2) else match b.bk (locRd (bytesL pnr)).1 with
    | none => (none, 2)
    | some x => (some x, 0)
def sureX (x : Bk) : Bk := { x with state := 2, till := 0 }
def quitP (id : Int) (p : Pl) : Pl := { p with q := delQ id p.q }
def gone (b : Book) (x : Bk) : Book := if x.state = 3 then b.put x.flt (quitP x.id) (kdel Bk.id x.id b.L) else dropB b x
def seatP (r : RF) (p : Pl) : Pl := { p with r := r }
def oneB (b : Book) (x : Bk) (c : Cm) : Book × Rp :=
  match b.at x.flt with
  | none => (b, errR 0)
  | some p =>
    if c.kind = 3 then (if x.state ≠ 1 then (b, errR 7) else ({ b with L := kset Bk.id x.id sureX b.L }, tellP p (sureX x)))
    else if c.kind = 4 then (promote x.flt (gone b x), ⟨0, c.pnr, 0, 0, 0, 0, 0, [], []⟩)
    else if x.state = 3 then (b, errR 7)
    else if c.kind = 5 then
      (if (rseatF p.r x.id c.lab).2 ≠ 0 then (b, errR (rseatF p.r x.id c.lab).2)
        else (b.put x.flt (seatP (rseatF p.r x.id c.lab).1) b.L, tellP (seatP (rseatF p.r x.id c.lab).1 p) x))
    else (if (rautoF p.r x.id).2.2 ≠ 0 then (b, errR (rautoF p.r x.id).2.2)
        else (b.put x.flt (seatP (rautoF p.r x.id).1) b.L, tellP (seatP (rautoF p.r x.id).1 p) x))
def showB (b : Book) (c : Cm) : Rp :=
  if ¬ RightC c ∨ c.kind ≠ 9 then errR 1
  else if c.pnr ≠ emS then (match namedB b c.pnr with
    | (none, e) => errR e
    | (some x, _) => tellB b x)
  else match b.at c.flt with
    | none => errR 2
    | some p => ⟨0, emS, 0, c.flt, 0, (p.q.length : Int), 0, rleftsF p.r, []⟩
def applyB (b : Book) (c : Cm) : Book × Rp :=
  if ¬ RightC c then (b, errR 1)
  else if c.kind = 1 then openB b c
  else if c.kind = 2 then heldB b c
  else if c.kind = 7 then waitB b c
  else if c.kind = 8 then clockB b c
  else if c.kind = 9 then (b, showB b c)
  else match namedB b c.pnr with
    | (none, e) => (b, errR e)
    | (some x, _) => oneB b x c
def HasP (p : Pl) (x : Bk) : Prop :=
  if x.state = 3 then (∃ w ∈ p.q, w.id = x.id ∧ w.cls = x.cls ∧ w.many = x.many) ∧ x.cls < p.r.lims.length
  else ∃ h ∈ p.r.L, h.owner = x.id ∧ h.cls = x.cls ∧ h.many = x.many
structure BkOk (next : Int) (x : Bk) : Prop where
  id : 1 ≤ x.id ∧ x.id < next
  flt : 0 ≤ x.flt ∧ x.flt ≤ 9999
  cls : 0 ≤ x.cls ∧ x.cls ≤ 9999
  many : 0 ≤ x.many ∧ x.many ≤ 9999
  state : 1 ≤ x.state ∧ x.state ≤ 3
  till : 0 ≤ x.till ∧ x.till ≤ 1099511627776
  free : x.state ≠ 1 → x.till = 0
structure LocP (L : List Bk) (p : Pl) : Prop where
  has : ∀ x ∈ L, x.flt = p.n → HasP p x
  backQ : ∀ w ∈ p.q, ∃ x ∈ L, x.id = w.id ∧ x.flt = p.n ∧ x.state = 3
  backH : ∀ h ∈ p.r.L, ∃ x ∈ L, x.id = h.owner ∧ x.flt = p.n ∧ x.state ≠ 3
structure Core (b : Book) : Prop where
  now : 0 ≤ b.now ∧ b.now ≤ 1099511627776
  next : 1 ≤ b.next ∧ b.next ≤ 28629151
  good : ∀ p ∈ b.fl, Good p.r
  qok : ∀ p ∈ b.fl, QOk p.q
  nums : KRise Pl.n b.fl
  few : b.fl.length ≤ 8
  ids : KRise Bk.id b.L
  each : ∀ x ∈ b.L, BkOk b.next x
  many : b.L.length ≤ 300
  there : ∀ x ∈ b.L, ∃ p ∈ b.fl, p.n = x.flt
  loc : ∀ p ∈ b.fl, LocP b.L p
def Timely (b : Book) : Prop := ∀ x ∈ b.L, x.state = 1 → b.now < x.till
def NoFit (p : Pl) : Prop := qfirst p.q (rleftsF p.r) = none
structure BookOk (b : Book) : Prop where
  core : Core b
  time : Timely b
  nofit : ∀ p ∈ b.fl, NoFit p
theorem core_new : Core newBook :=
  ⟨⟨by decide, by decide⟩, ⟨by decide, by decide⟩, fun _ h => (by cases h), fun _ h => (by cases h), List.Pairwise.nil, by decide, List.Pairwise.nil, fun _ h => (by cases h), by decide, fun _ h => (by cases h), fun _ h => (by cases h)⟩
theorem ok_new : BookOk newBook := ⟨core_new, fun _ h => (by cases h), fun _ h => (by cases h)⟩
theorem Core.swap {b : Book} (c : Core b) {n : Int} {f : Pl → Pl} {L : List Bk} {next : Int} (hn : b.next ≤ next ∧ next ≤ 28629151)
    (hf : ∀ p ∈ b.fl, p.n = n → (f p).n = n ∧ Good (f p).r ∧ QOk (f p).q ∧ LocP L (f p))
    (ids : KRise Bk.id L) (each : ∀ x ∈ L, BkOk next x) (many : L.length ≤ 300)
    (out : ∀ x, x.flt ≠ n → (x ∈ L ↔ x ∈ b.L)) (here : ∀ x ∈ L, x.flt = n → ∃ p ∈ b.fl, p.n = n) : Core { b.put n f L with next := next } := by
  have hmem : ∀ {p}, p ∈ kset Pl.n n f b.fl → ∃ q ∈ b.fl, q.n = p.n ∧ ((q.n = n ∧ p = f q) ∨ (q.n ≠ n ∧ p = q)) := fun {p} hp => by
    obtain ⟨q, hq, e⟩ := mem_kset.1 hp
    by_cases h : q.n = n
    · rw [if_pos h] at e
      exact ⟨q, hq, by rw [e, (hf q hq h).1, h], .inl ⟨h, e⟩⟩
    · rw [if_neg h] at e
      exact ⟨q, hq, by rw [e], .inr ⟨h, e⟩⟩
  have hput : ∀ {q}, q ∈ b.fl → ∃ p ∈ kset Pl.n n f b.fl, p.n = q.n := fun {q} hq => by
    by_cases h : q.n = n
    · exact ⟨f q, mem_kset.2 ⟨q, hq, by rw [if_pos h]⟩, by rw [(hf q hq h).1, h]⟩
    · exact ⟨q, mem_kset.2 ⟨q, hq, by rw [if_neg h]⟩, rfl⟩
  refine ⟨c.now, ⟨Int.le_trans c.next.1 hn.1, hn.2⟩, fun p hp => ?_, fun p hp => ?_, kset_rise c.nums fun p hp e => (hf p hp e).1, by show (kset Pl.n n f b.fl).length ≤ 8; rw [kset_len]; exact c.few, ids, each, many, fun x hx => ?_, fun p hp => ?_⟩
  · obtain ⟨q, hq, _, ⟨h, rfl⟩ | ⟨h, rfl⟩⟩ := hmem hp
    · exact (hf q hq h).2.1
    · exact c.good p hq
  · obtain ⟨q, hq, _, ⟨h, rfl⟩ | ⟨h, rfl⟩⟩ := hmem hp
    · exact (hf q hq h).2.2.1
    · exact c.qok p hq
  · by_cases h : x.flt = n
    · obtain ⟨p, hp, e⟩ := here x hx h
      obtain ⟨p', hp', e'⟩ := hput hp
      exact ⟨p', hp', by rw [e', e, h]⟩
    · obtain ⟨p, hp, e⟩ := c.there x ((out x h).1 hx)
      obtain ⟨p', hp', e'⟩ := hput hp
      exact ⟨p', hp', by rw [e', e]⟩
  · obtain ⟨q, hq, _, ⟨h, rfl⟩ | ⟨h, rfl⟩⟩ := hmem hp
    · exact (hf q hq h).2.2.2
    · have hl := c.loc p hq
      refine ⟨fun x hx e => hl.has x ((out x (by rw [e]; exact h)).1 hx) e, fun w hw => ?_, fun o ho => ?_⟩
      · obtain ⟨x, hx, a1, a2, a3⟩ := hl.backQ w hw
        exact ⟨x, (out x (by rw [a2]; exact h)).2 hx, a1, a2, a3⟩
      · obtain ⟨x, hx, a1, a2, a3⟩ := hl.backH o ho
        exact ⟨x, (out x (by rw [a2]; exact h)).2 hx, a1, a2, a3⟩
theorem BkOk.le {n m : Int} {x : Bk} (h : BkOk n x) (hl : n ≤ m) : BkOk m x := ⟨⟨h.id.1, Int.lt_of_lt_of_le h.id.2 hl⟩, h.flt, h.cls, h.many, h.state, h.till, h.free⟩
theorem at_some {b : Book} {n : Int} {p : Pl} (h : b.at n = some p) : p ∈ b.fl ∧ p.n = n := kget_some h
theorem at_iff {b : Book} (c : Core b) {n : Int} {p : Pl} : b.at n = some p ↔ p ∈ b.fl ∧ p.n = n := kget_iff c.nums
theorem bk_iff {b : Book} (c : Core b) {n : Int} {x : Bk} : b.bk n = some x ↔ x ∈ b.L ∧ x.id = n := kget_iff c.ids
theorem Core.at_of {b : Book} (c : Core b) {x : Bk} (hx : x ∈ b.L) : ∃ p, b.at x.flt = some p := by
  obtain ⟨p, hp, e⟩ := c.there x hx
  exact ⟨p, (at_iff c).2 ⟨hp, e⟩⟩
theorem at_put {b : Book} {n : Int} {f : Pl → Pl} {L : List Bk} {p : Pl} (hf : (f p).n = n) (c : Core b) (h : b.at n = some p) (c' : KRise Pl.n (kset Pl.n n f b.fl)) : (b.put n f L).at n = some (f p) := by
  have h1 := at_some h
  exact (kget_iff c').2 ⟨mem_kset.2 ⟨p, h1.1, by rw [if_pos h1.2]⟩, hf⟩
end
end Go.Proofs.YtfgbbckfikiomaaGreatDoor
/- What a flight's steps do to what is left, and to who has what. No condition. -/
namespace Go.Proofs.YtfgbbckfikiomaaGreatDoor
set_option linter.unusedVariables false
open Go Go.VC
variable {r : RF} {o c m : Int}
theorem good_take (g : Good r) (o c m : Int) : Good (rtakeF r o c m).1 := by
  obtain ⟨f, _, t⟩ := dec_enc g
  exact (tie_take t g o c m).2.2
theorem good_give (g : Good r) (o : Int) : Good (rgiveF r o).1 := by
  obtain ⟨f, _, t⟩ := dec_enc g
  exact (tie_give t g o).2.2
theorem good_seat (g : Good r) (o : Int) (lab : ByteArray) : Good (rseatF r o lab).1 := by
  obtain ⟨f, _, t⟩ := dec_enc g
  exact (tie_seat t g o lab fun k h => find_in h).2.2
theorem good_auto (g : Good r) (o : Int) : Good (rautoF r o).1 := by
  obtain ⟨f, _, t⟩ := dec_enc g
  exact (tie_auto t g o).2.2.1
theorem take_num : (rtakeF r o c m).1.num = r.num ∧ (rtakeF r o c m).1.lims = r.lims := by
  by_cases h : (rtakeF r o c m).2 = 0
  · obtain ⟨A, C, e, _, _⟩ := take_ok h
    rw [e]
    exact ⟨rfl, rfl⟩
  · rw [take_no h]
    exact ⟨rfl, rfl⟩
theorem take_mem (h : (rtakeF r o c m).2 = 0) {x : Hold} : x ∈ (rtakeF r o c m).1.L ↔ x = ⟨o, c, m, []⟩ ∨ x ∈ r.L := by
  obtain ⟨A, C, e, hL, _⟩ := take_ok h
  rw [e, hL]
  dsimp only
  rw [List.mem_append, List.mem_cons, List.mem_append]
  constructor
  · rintro (h | h | h) <;> simp [h]
  · rintro (h | h | h) <;> simp [h]
theorem take_facts (h : (rtakeF r o c m).2 = 0) : (1 ≤ o ∧ o ≤ 28629151) ∧ getO o r.L = none ∧ (sellT r.lims r.sold c m).2 = 0 ∧ rtakeF r o c m = ({ r with L := insH ⟨o, c, m, []⟩ r.L }, 0) := by
  unfold rtakeF at h ⊢
  split at h
  · cases h
  rename_i h1
  split at h
  · cases h
  rename_i h2
  rw [if_neg h1, if_neg h2]
  split at h
  · rename_i h3
    rw [if_pos h3]
    exact ⟨by omega, by cases e : getO o r.L with | none => rfl | some x => rw [e] at h2; simp at h2, h3, rfl⟩
  · rename_i h3; exact absurd h h3
theorem take_sold (h : (rtakeF r o c m).2 = 0) : (rtakeF r o c m).1.sold = r.sold.set c.toNat (r.sold.getD c.toNat 0 + m) ∧ 0 ≤ c ∧ c < r.lims.length ∧ 1 ≤ m := by
  obtain ⟨_, _, h3, e⟩ := take_facts h
  obtain ⟨_, _, c0, c1, m0⟩ := nest_sell h3
  refine ⟨?_, c0, c1, m0⟩
  rw [e]
  exact (soldL_put (n := r.lims.length) (insH_perm ⟨o, c, m, []⟩ r.L) c0 c1).symm
theorem mnF_mono {x y : Nat → Int} : ∀ {k : Nat}, (∀ i, i < k → x i ≤ y i) → mnF x k ≤ mnF y k
  | 0, _ => Int.le_refl _
  | k + 1, h => by
    have h1 := mnF_mono (k := k) fun i hi => h i (by omega)
    have h2 := h k (by omega)
    unfold mnF
    split <;> split <;> omega
theorem lefts_len (r : RF) : (rleftsF r).length = r.lims.length := by simp [rleftsF]
theorem lefts_get {k : Nat} (h : k < r.lims.length) : (rleftsF r).getD k 0 = (leftT r.lims r.sold k).1 := by
  unfold rleftsF
  rw [List.getD_eq_getElem?_getD]
  simp [h]
theorem left_val (g : Good r) {k : Nat} (h : k < r.lims.length) : (leftT r.lims r.sold k).1 = mnF (roomF r.lims r.sold) (k + 1) ∧ (leftT r.lims r.sold k).2 = 0 := by
  unfold leftT
  rw [if_pos ⟨g.nest, by omega, by omega⟩]
  exact ⟨by rw [Int.toNat_natCast], rfl⟩
theorem take_left (g : Good r) (h : (rtakeF r o c m).2 = 0) {k : Nat} (hk : k < r.lims.length) : (rleftsF (rtakeF r o c m).1).getD k 0 ≤ (rleftsF r).getD k 0 := by
  obtain ⟨hs, c0, c1, m0⟩ := take_sold h
  have hl := (take_num (r := r) (o := o) (c := c) (m := m)).2
  have g' := good_take g o c m
  rw [lefts_get hk, lefts_get (by rw [hl]; exact hk), (left_val g hk).1, (left_val g' (by rw [hl]; exact hk)).1, hl, hs]
  refine mnF_mono fun i hi => ?_
  unfold roomF
  have hlen : r.sold.length = r.lims.length := soldL_len _ _
  have := fromN_add (sold := r.sold) (c := c.toNat) (m := m) (by omega) (r.lims.length - i) i (by omega)
  rw [this]
  split <;> omega
theorem take_fits (g : Good r) {w : Wt} (hw : w.Ok) (hf : fitsQ (rleftsF r) w = true) (hn : getO w.id r.L = none) : (rtakeF r w.id w.cls w.many).2 = 0 := by
  obtain ⟨⟨a1, a2⟩, ⟨b1, b2⟩, ⟨c1, c2⟩, _⟩ := hw
  unfold fitsQ at hf
  simp only [Bool.and_eq_true, decide_eq_true_eq] at hf
  rw [lefts_len] at hf
  rw [lefts_get (by omega)] at hf
  have hv := left_val g (k := w.cls.toNat) (by omega)
  have e : ((w.cls.toNat : Nat) : Int) = w.cls := by omega
  rw [e] at hf hv
  have hs : (sellT r.lims r.sold w.cls w.many).2 = 0 := by
    unfold sellT
    rw [if_neg (by rw [hv.2]; omega), if_neg (by omega)]
  unfold rtakeF
  rw [if_neg (by omega), hn, if_neg (by simp), if_pos hs]
theorem fits_take (g : Good r) (h : (rtakeF r o c m).2 = 0) {w : Wt} (hw : 0 ≤ w.cls) (hf : fitsQ (rleftsF (rtakeF r o c m).1) w = true) : fitsQ (rleftsF r) w = true := by
  unfold fitsQ at *
  simp only [Bool.and_eq_true, decide_eq_true_eq] at *
  rw [lefts_len] at *
  rw [(take_num (r := r) (o := o) (c := c) (m := m)).2] at hf
  have := take_left g h (k := w.cls.toNat) (by omega)
  omega
theorem give_num : (rgiveF r o).1.num = r.num ∧ (rgiveF r o).1.lims = r.lims := by
  unfold rgiveF
  split <;> exact ⟨rfl, rfl⟩
theorem give_mem (g : Good r) {x : Hold} : x ∈ (rgiveF r o).1.L ↔ x ∈ r.L ∧ x.owner ≠ o := by
  unfold rgiveF
  cases hg : getO o r.L with
  | none =>
    dsimp only
    exact ⟨fun h => ⟨h, getO_none.1 hg x h⟩, fun h => h.1⟩
  | some hd =>
    obtain ⟨A, C, hL, hA, ho⟩ := getO_split hg
    have hr := g.rise
    dsimp only
    rw [hL] at hr ⊢
    rw [delO_app ho hA]
    have hp := List.pairwise_append.1 hr
    have hc := List.pairwise_cons.1 hp.2.1
    rw [List.mem_append, List.mem_append, List.mem_cons]
    constructor
    · rintro (h | h)
      · exact ⟨.inl h, getO_none.1 hA x h⟩
      · exact ⟨.inr (.inr h), by have := hc.1 x h; omega⟩
    · rintro ⟨h | rfl | h, hn⟩
      · exact .inl h
      · exact absurd ho hn
      · exact .inr h
structure Seatly (r r' : RF) : Prop where
  num : r'.num = r.num
  lims : r'.lims = r.lims
  rows : r'.rows = r.rows
  grps : r'.grps = r.grps
  each : ∃ A hd hd' C, r.L = A ++ hd :: C ∧ r'.L = A ++ hd' :: C ∧ hd'.owner = hd.owner ∧ hd'.cls = hd.cls ∧ hd'.many = hd.many
theorem Seatly.sold {r' : RF} (h : Seatly r r') : r'.sold = r.sold := by
  obtain ⟨A, hd, hd', C, e1, e2, _, e4, e5⟩ := h.each
  unfold RF.sold soldL
  rw [h.lims]
  apply List.map_congr_left
  intro k _
  rw [e1, e2, cntL_app, cntL_app, cntL_cons, cntL_cons, e4, e5]
theorem Seatly.lefts {r' : RF} (h : Seatly r r') : rleftsF r' = rleftsF r := by
  unfold rleftsF
  rw [h.lims, h.sold]
theorem Seatly.mem {r' : RF} (h : Seatly r r') {x : Hold} (hx : x ∈ r.L) : ∃ y ∈ r'.L, y.owner = x.owner ∧ y.cls = x.cls ∧ y.many = x.many := by
  obtain ⟨A, hd, hd', C, e1, e2, e3, e4, e5⟩ := h.each
  rw [e1, List.mem_append, List.mem_cons] at hx
  rw [e2]
  rcases hx with hx | rfl | hx
  · exact ⟨x, by simp [hx], rfl, rfl, rfl⟩
  · exact ⟨hd', by simp, e3, e4, e5⟩
  · exact ⟨x, by simp [hx], rfl, rfl, rfl⟩
theorem Seatly.symm {r' : RF} (h : Seatly r r') : Seatly r' r := by
  obtain ⟨A, hd, hd', C, e1, e2, e3, e4, e5⟩ := h.each
  exact ⟨h.num.symm, h.lims.symm, h.rows.symm, h.grps.symm, A, hd', hd, C, e2, e1, e3.symm, e4.symm, e5.symm⟩
theorem seat_ly (g : Good r) {lab : ByteArray} (h : (rseatF r o lab).2 = 0) : Seatly r (rseatF r o lab).1 := by
  obtain ⟨A, hd, C, n, _, hL, _, _, _, e⟩ := seat_ok g h
  rw [e]
  exact ⟨rfl, rfl, rfl, rfl, A, hd, hd.put n, C, hL, rfl, rfl, rfl, rfl⟩
theorem auto_ly (h : (rautoF r o).2.2 = 0) : Seatly r (rautoF r o).1 := by
  unfold rautoF at *
  cases hg : getO o r.L with
  | none => rw [hg] at h; cases h
  | some hd =>
    obtain ⟨A, C, hL, hA, ho⟩ := getO_split hg
    rw [hg] at h
    dsimp only at h ⊢
    split at h
    · cases h
    · rename_i h1
      rw [if_neg h1]
      split at h
      · rename_i h2
        rw [if_pos h2]
        refine ⟨rfl, rfl, rfl, rfl, A, hd, { hd with seats := (bestT r.rows r.grps (takenL r.L) hd.many).1 }, C, hL, ?_, rfl, rfl, rfl⟩
        show setO o _ r.L = _
        rw [hL]
        exact setO_app ho hA
      · rename_i h2; exact absurd h h2
theorem seat_no' {lab : ByteArray} (h : (rseatF r o lab).2 ≠ 0) : (rseatF r o lab).1 = r := (seat_no h).1
theorem auto_no (h : (rautoF r o).2.2 ≠ 0) : (rautoF r o).1 = r := by
  unfold rautoF at *
  cases hg : getO o r.L with
  | none => rfl
  | some hd =>
    rw [hg] at h
    dsimp only at h ⊢
    split
    · rfl
    · rename_i h1
      rw [if_neg h1] at h
      split
      · rename_i h2; rw [if_pos h2] at h; exact absurd rfl h
      · rfl
end Go.Proofs.YtfgbbckfikiomaaGreatDoor
/- The book, plainly: what holds of it, behind each step. No condition. -/
namespace Go.Proofs.YtfgbbckfikiomaaGreatDoor
set_option linter.unusedVariables false
open Go Go.VC
variable {b : Book} {n : Int} {p : Pl} {w : Wt} {x : Bk}
theorem Core.uniq (c : Core b) {x y : Bk} (hx : x ∈ b.L) (hy : y ∈ b.L) (e : x.id = y.id) : x = y := c.ids.uniq hx hy e
theorem Core.uniqP (c : Core b) {p q : Pl} (hp : p ∈ b.fl) (hq : q ∈ b.fl) (e : p.n = q.n) : p = q := c.nums.uniq hp hq e
theorem Core.waits (c : Core b) (hp : p ∈ b.fl) (hw : w ∈ p.q) : ∃ x ∈ b.L, x.id = w.id ∧ x.flt = p.n ∧ x.state = 3 ∧ x.cls = w.cls ∧ x.many = w.many := by
  obtain ⟨x, hx, e1, e2, e3⟩ := (c.loc p hp).backQ w hw
  have h := (c.loc p hp).has x hx e2
  unfold HasP at h
  rw [if_pos e3] at h
  obtain ⟨⟨w', hw', a1, a2, a3⟩, _⟩ := h
  have : w' = w := by
    have hq := (c.qok p hp).ids
    have key : ∀ {q : List Wt}, QIds q → ∀ {a b : Wt}, a ∈ q → b ∈ q → a.id = b.id → a = b := by
      intro q
      induction q with
      | nil => intro _ a b ha; cases ha
      | cons y q ih =>
        intro h a b ha hb e
        have hp := List.pairwise_cons.1 h
        rcases List.mem_cons.1 ha with e1 | h1
        · rcases List.mem_cons.1 hb with e2 | h2
          · rw [e1, e2]
          · rw [e1] at e; exact absurd e (hp.1 b h2)
        · rcases List.mem_cons.1 hb with e2 | h2
          · rw [e2] at e; exact absurd e.symm (hp.1 a h1)
          · exact ih hp.2 h1 h2 e
    exact key hq hw' hw (by omega)
  rw [this] at a2 a3
  exact ⟨x, hx, e1, e2, e3, a2.symm, a3.symm⟩
theorem Core.noHold (c : Core b) (hp : p ∈ b.fl) (hw : w ∈ p.q) : getO w.id p.r.L = none := by
  rw [getO_none]
  intro h hh e
  obtain ⟨x, hx, e1, e2, e3, _⟩ := c.waits hp hw
  obtain ⟨y, hy, a1, a2, a3⟩ := (c.loc p hp).backH h hh
  have := c.uniq hx hy (by omega)
  rw [this] at e3
  exact a3 e3
theorem takeW_n : (takeW w p).n = p.n := take_num.1
theorem fit_take (c : Core b) (hp : p ∈ b.fl) (hw : qfirst p.q (rleftsF p.r) = some w) : w ∈ p.q ∧ fitsQ (rleftsF p.r) w = true ∧ (rtakeF p.r w.id w.cls w.many).2 = 0 := by
  obtain ⟨h1, h2⟩ := qfirst_mem hw
  exact ⟨h1, h2, take_fits (c.good p hp) ((c.qok p hp).ok w h1) h2 (c.noHold hp h1)⟩
theorem core_move (c : Core b) (hp : p ∈ b.fl) (hn : p.n = n) (hf : qfirst p.q (rleftsF p.r) = some w) : Core (moveB b n w) := by
  obtain ⟨hw, hfit, htake⟩ := fit_take c hp hf
  obtain ⟨x, hx, e1, e2, e3, e4, e5⟩ := c.waits hp hw
  have hq := c.qok p hp
  refine c.swap (next := b.next) ⟨Int.le_refl _, c.next.2⟩ (fun p' hp' hn' => ?_) (kset_rise c.ids fun y _ e => e) (fun y hy => ?_) (by show (kset Bk.id w.id bookX b.L).length ≤ 300; rw [kset_len]; exact c.many) (fun y hy => ?_) fun y _ _ => ⟨p, hp, hn⟩
  · obtain rfl : p' = p := c.uniqP hp' hp (by omega)
    refine ⟨by rw [takeW_n]; exact hn, good_take (c.good _ hp) _ _ _, hq.del _, ?_⟩
    have hl := c.loc _ hp
    refine ⟨fun y hy e => ?_, fun v hv => ?_, fun h hh => ?_⟩
    · obtain ⟨z, hz, rfl⟩ := mem_kset.1 hy
      by_cases hid : z.id = w.id
      · rw [if_pos hid]
        obtain rfl : z = x := c.uniq hz hx (by omega)
        unfold HasP
        rw [if_neg (by show (2 : Int) ≠ 3; omega)]
        exact ⟨⟨w.id, w.cls, w.many, []⟩, (take_mem htake).2 (.inl rfl), hid.symm, e4.symm, e5.symm⟩
      · rw [if_neg hid] at e ⊢
        have hz2 := hl.has z hz (by rw [e, takeW_n])
        unfold HasP at *
        by_cases h3 : z.state = 3
        · rw [if_pos h3] at hz2 ⊢
          obtain ⟨⟨v, hv, a1, a2, a3⟩, a4⟩ := hz2
          refine ⟨⟨v, (delQ_mem hq.ids).2 ⟨hv, by omega⟩, a1, a2, a3⟩, ?_⟩
          show z.cls < ((rtakeF _ _ _ _).1.lims.length : Int)
          rw [take_num.2]; exact a4
        · rw [if_neg h3] at hz2 ⊢
          obtain ⟨h, hh, a1, a2, a3⟩ := hz2
          exact ⟨h, (take_mem htake).2 (.inr hh), a1, a2, a3⟩
    · obtain ⟨hv1, hv2⟩ := (delQ_mem hq.ids).1 hv
      obtain ⟨y, hy, a1, a2, a3⟩ := hl.backQ v hv1
      exact ⟨y, mem_kset.2 ⟨y, hy, by rw [if_neg (by omega)]⟩, a1, by rw [a2, takeW_n], a3⟩
    · rcases (take_mem htake).1 hh with rfl | hh
      · exact ⟨bookX x, mem_kset.2 ⟨x, hx, by rw [if_pos e1]⟩, e1, by show x.flt = _; rw [e2, takeW_n], by show (2 : Int) ≠ 3; omega⟩
      · obtain ⟨y, hy, a1, a2, a3⟩ := hl.backH h hh
        refine ⟨y, mem_kset.2 ⟨y, hy, ?_⟩, a1, by rw [a2, takeW_n], a3⟩
        rw [if_neg fun e => ?_]
        obtain rfl : y = x := c.uniq hy hx (by omega)
        exact a3 e3
  · obtain ⟨z, hz, rfl⟩ := mem_kset.1 hy
    have hb := c.each z hz
    by_cases hid : z.id = w.id
    · rw [if_pos hid]
      obtain rfl : z = x := c.uniq hz hx (by omega)
      exact ⟨hb.id, hb.flt, hb.cls, hb.many, ⟨by show (1 : Int) ≤ 2; omega, by show (2 : Int) ≤ 3; omega⟩, hb.till, fun _ => hb.free (by omega)⟩
    · rw [if_neg hid]; exact hb
  · constructor
    · intro h
      obtain ⟨z, hz, rfl⟩ := mem_kset.1 h
      by_cases hid : z.id = w.id
      · rw [if_pos hid] at hy
        obtain rfl : z = x := c.uniq hz hx (by omega)
        exact absurd (e2.trans hn) hy
      · rw [if_neg hid]; exact hz
    · intro h
      refine mem_kset.2 ⟨y, h, ?_⟩
      rw [if_neg fun e => ?_]
      obtain rfl : y = x := c.uniq h hx (by omega)
      exact hy (e2.trans hn)
theorem move_at (c : Core b) (hp : b.at n = some p) : (moveB b n w).at n = some (takeW w p) :=
  at_put (by rw [takeW_n]; exact (at_some hp).2) c hp (kset_rise c.nums fun q _ e => by rw [takeW_n]; exact e)
theorem move_fl {q : Pl} (h : q ∈ (moveB b n w).fl) : q.n = n ∨ q ∈ b.fl := by
  obtain ⟨z, hz, rfl⟩ := mem_kset.1 h
  by_cases e : z.n = n
  · rw [if_pos e]; exact .inl (by rw [takeW_n]; exact e)
  · rw [if_neg e]; exact .inr hz
theorem move_timely (t : Timely b) : Timely (moveB b n w) := by
  intro x hx hs
  obtain ⟨z, hz, rfl⟩ := mem_kset.1 hx
  by_cases e : z.id = w.id
  · rw [if_pos e] at hs; exact absurd hs (by show (2 : Int) ≠ 1; omega)
  · rw [if_neg e] at hs ⊢; exact t z hz hs
theorem delQ_len {id : Int} {q : List Wt} (h : hasQ id q = true) : (delQ id q).length + 1 = q.length := by
  obtain ⟨A, w, C, e, _, _, e2⟩ := delQ_split h
  rw [e2, e]
  simp
  omega
structure Kept (n : Int) (b b' : Book) : Prop where
  now : b'.now = b.now
  next : b'.next = b.next
  keys : b'.fl.map Pl.n = b.fl.map Pl.n
  others : ∀ q ∈ b'.fl, q.n = n ∨ q ∈ b.fl
  ids : b'.L.map Bk.id = b.L.map Bk.id
  bk : ∀ y ∈ b'.L, ∃ x ∈ b.L, y.id = x.id ∧ y.flt = x.flt ∧ y.cls = x.cls ∧ y.many = x.many ∧ y.till = x.till
theorem Kept.refl (n : Int) (b : Book) : Kept n b b := ⟨rfl, rfl, rfl, fun _ h => .inr h, rfl, fun y hy => ⟨y, hy, rfl, rfl, rfl, rfl, rfl⟩⟩
theorem Kept.trans {b1 b2 b3 : Book} (h1 : Kept n b1 b2) (h2 : Kept n b2 b3) : Kept n b1 b3 :=
  ⟨h2.now.trans h1.now, h2.next.trans h1.next, h2.keys.trans h1.keys, fun q hq => by
    rcases h2.others q hq with h | h
    · exact .inl h
    · exact h1.others q h, h2.ids.trans h1.ids, fun y hy => by
    obtain ⟨x, hx, a1, a2, a3, a4, a5⟩ := h2.bk y hy
    obtain ⟨z, hz, c1, c2, c3, c4, c5⟩ := h1.bk x hx
    exact ⟨z, hz, by omega, by omega, by omega, by omega, by omega⟩⟩
theorem kset_keys {α : Type} {k : α → Int} {n : Int} {f : α → α} (hf : ∀ x, k x = n → k (f x) = n) : ∀ l : List α, (kset k n f l).map k = l.map k
  | [] => rfl
  | a :: l => by
    show k (if k a = n then f a else a) :: (kset k n f l).map k = _
    rw [kset_keys hf l, List.map_cons]
    split
    · rename_i e; rw [hf a e, e]
    · rfl
theorem kept_move : Kept n b (moveB b n w) := by
  refine ⟨rfl, rfl, kset_keys (fun q e => by rw [takeW_n]; exact e) _, fun q hq => move_fl hq, kset_keys (k := Bk.id) (f := bookX) (fun y e => e) b.L, fun y hy => ?_⟩
  obtain ⟨z, hz, rfl⟩ := mem_kset.1 hy
  refine ⟨z, hz, ?_⟩
  split <;> exact ⟨rfl, rfl, rfl, rfl, rfl⟩
theorem prom_ok : ∀ (k : Nat) {b : Book}, Core b → Core (promB k n b) ∧ Kept n b (promB k n b) ∧ (Timely b → Timely (promB k n b)) ∧ ((∀ p, b.at n = some p → p.q.length < k) → ∀ p ∈ (promB k n b).fl, p.n = n → NoFit p)
  | 0, b, c => ⟨c, Kept.refl n b, fun t => t, fun h p hp e => absurd (h p ((at_iff c).2 ⟨hp, e⟩)) (by omega)⟩
  | k + 1, b, c => by
    unfold promB
    cases ha : b.at n with
    | none =>
      refine ⟨c, Kept.refl n b, fun t => t, fun _ p hp e => ?_⟩
      rw [(at_iff c).2 ⟨hp, e⟩] at ha
      cases ha
    | some p =>
      dsimp only
      have hp := at_some ha
      cases hq : qfirst p.q (rleftsF p.r) with
      | none =>
        refine ⟨c, Kept.refl n b, fun t => t, fun _ p' hp' e => ?_⟩
        obtain rfl : p' = p := c.uniqP hp' hp.1 (by rw [e, hp.2])
        exact hq
      | some w =>
        dsimp only
        have c' := core_move c hp.1 hp.2 hq
        obtain ⟨i1, i2, i3, i4⟩ := prom_ok k c'
        refine ⟨i1, kept_move.trans i2, fun t => i3 (move_timely t), fun h => i4 fun p' hp' => ?_⟩
        rw [move_at c ha] at hp'
        cases hp'
        have h1 := h p rfl
        have hm := (fit_take c hp.1 hq).1
        have h2 := delQ_len (hasQ_iff.2 ⟨w, hm, rfl⟩)
        show (delQ w.id p.q).length < k
        omega
theorem promote_ok (c : Core b) : Core (promote n b) ∧ Kept n b (promote n b) ∧ (Timely b → Timely (promote n b)) ∧ ∀ p ∈ (promote n b).fl, p.n = n → NoFit p := by
  obtain ⟨h1, h2, h3, h4⟩ := prom_ok (n := n) 201 c
  exact ⟨h1, h2, h3, h4 fun p hp => by have := (c.qok p (at_some hp).1).len; omega⟩
theorem core_open (c : Core b) {r : RF} (g : Good r) (hL : r.L = []) (hn : b.at r.num = none) (hf : b.fl.length < 8) : Core { b with fl := kins Pl.n ⟨r, []⟩ b.fl } := by
  have hno := kget_none.1 hn
  refine ⟨c.now, c.next, fun p hp => ?_, fun p hp => ?_, kins_rise c.nums hno, by show (kins Pl.n _ b.fl).length ≤ 8; rw [kins_len]; omega, c.ids, c.each, c.many, fun x hx => ?_, fun p hp => ?_⟩
  · rcases mem_kins.1 hp with rfl | hp
    · exact g
    · exact c.good p hp
  · rcases mem_kins.1 hp with rfl | hp
    · exact QOk.nil
    · exact c.qok p hp
  · obtain ⟨p, hp, e⟩ := c.there x hx
    exact ⟨p, mem_kins.2 (.inr hp), e⟩
  · rcases mem_kins.1 hp with rfl | hp
    · refine ⟨fun x hx e => ?_, fun w hw => (by cases hw), fun h hh => ?_⟩
      · obtain ⟨p, hp, e2⟩ := c.there x hx
        exact absurd (e2.trans e) (hno p hp)
      · rw [show (Pl.mk r []).r.L = r.L from rfl, hL] at hh; cases hh
    · exact c.loc p hp
theorem core_out (c : Core b) (hx : x ∈ b.L) {f : Pl → Pl} (hf : ∀ p ∈ b.fl, p.n = x.flt → (f p).n = x.flt ∧ Good (f p).r ∧ QOk (f p).q ∧ (f p).r.lims = p.r.lims ∧ (∀ w, w ∈ (f p).q ↔ w ∈ p.q ∧ w.id ≠ x.id) ∧ ∀ h, h ∈ (f p).r.L ↔ h ∈ p.r.L ∧ h.owner ≠ x.id) :
    Core (b.put x.flt f (kdel Bk.id x.id b.L)) := by
  refine c.swap (next := b.next) ⟨Int.le_refl _, c.next.2⟩ (fun p hp hn => ?_) (kdel_rise c.ids) (fun y hy => c.each y (mem_kdel.1 hy).1) (Nat.le_trans (List.length_filter_le _ _) c.many) (fun y hy => ?_) fun y _ _ => c.there x hx
  · obtain ⟨f1, f2, f3, f6, f4, f5⟩ := hf p hp hn
    have hl := c.loc p hp
    refine ⟨f1, f2, f3, fun y hy e => ?_, fun w hw => ?_, fun h hh => ?_⟩
    · obtain ⟨hy1, hy2⟩ := mem_kdel.1 hy
      have h := hl.has y hy1 (by rw [e, f1, hn])
      unfold HasP at *
      by_cases h3 : y.state = 3
      · rw [if_pos h3] at h ⊢
        obtain ⟨⟨w, hw, a1, a2, a3⟩, a4⟩ := h
        exact ⟨⟨w, (f4 w).2 ⟨hw, by omega⟩, a1, a2, a3⟩, by rw [f6]; exact a4⟩
      · rw [if_neg h3] at h ⊢
        obtain ⟨h, hh, a1, a2, a3⟩ := h
        exact ⟨h, (f5 h).2 ⟨hh, by omega⟩, a1, a2, a3⟩
    · obtain ⟨hw1, hw2⟩ := (f4 w).1 hw
      obtain ⟨y, hy, a1, a2, a3⟩ := hl.backQ w hw1
      exact ⟨y, mem_kdel.2 ⟨hy, by omega⟩, a1, by rw [a2, f1, hn], a3⟩
    · obtain ⟨hh1, hh2⟩ := (f5 h).1 hh
      obtain ⟨y, hy, a1, a2, a3⟩ := hl.backH h hh1
      exact ⟨y, mem_kdel.2 ⟨hy, by omega⟩, a1, by rw [a2, f1, hn], a3⟩
  · refine mem_kdel.trans ⟨fun h => h.1, fun h => ⟨h, fun e => hy ?_⟩⟩
    rw [c.uniq h hx e]
theorem core_drop (c : Core b) (hx : x ∈ b.L) (hs : x.state ≠ 3) : Core (dropB b x) := by
  refine core_out c hx fun p hp hn => ⟨by show (rgiveF _ _).1.num = _; rw [give_num.1]; exact hn, good_give (c.good p hp) _, c.qok p hp, give_num.2, fun w => ⟨fun hw => ⟨hw, fun e => ?_⟩, fun h => h.1⟩, fun h => give_mem (c.good p hp)⟩
  obtain ⟨y, hy, e1, _, e3, _⟩ := c.waits hp hw
  rw [c.uniq hy hx (by omega)] at e3
  exact hs e3
theorem core_gone (c : Core b) (hx : x ∈ b.L) : Core (gone b x) := by
  unfold gone
  split
  · rename_i hs
    refine core_out c hx fun p hp hn => ⟨hn, c.good p hp, (c.qok p hp).del _, rfl, fun w => delQ_mem (c.qok p hp).ids, fun h => ⟨fun hh => ⟨hh, fun e => ?_⟩, fun hh => hh.1⟩⟩
    obtain ⟨y, hy, a1, a2, a3⟩ := (c.loc p hp).backH h hh
    rw [c.uniq hy hx (by omega)] at a3
    exact a3 hs
  · rename_i hs
    exact core_drop c hx hs
theorem put_timely {f : Pl → Pl} {L : List Bk} (t : Timely b) (h : ∀ y ∈ L, y.state = 1 → y ∈ b.L) : Timely (b.put n f L) := fun y hy hs => t y (h y hy hs) hs
theorem gone_timely (t : Timely b) : Timely (gone b x) := by
  unfold gone dropB
  split <;> exact put_timely t fun y hy _ => (mem_kdel.1 hy).1
theorem gone_fl {q : Pl} (h : q ∈ (gone b x).fl) : q.n = x.flt ∨ q ∈ b.fl := by
  unfold gone dropB at h
  split at h <;>
  · obtain ⟨z, hz, rfl⟩ := mem_kset.1 h
    by_cases e : z.n = x.flt
    · rw [if_pos e]
      exact .inl (by first | exact e | (show (rgiveF _ _).1.num = _; rw [give_num.1]; exact e))
    · rw [if_neg e]; exact .inr hz
end Go.Proofs.YtfgbbckfikiomaaGreatDoor
/- The book, plainly: each command. No condition. -/
namespace Go.Proofs.YtfgbbckfikiomaaGreatDoor
set_option linter.unusedVariables false
open Go Go.VC
variable {b : Book} {n : Int} {p : Pl} {w : Wt} {x : Bk} {c : Cm}
theorem mem_snoc {α : Type} {l : List α} {a y : α} : y ∈ l ++ [a] ↔ y ∈ l ∨ y = a := by simp
theorem Core.fresh (k : Core b) {y : Bk} (hy : y ∈ b.L) : y.id < b.next := (k.each y hy).id.2
theorem core_add (k : Core b) (hx : BkOk (b.next + 1) x) (hid : x.id = b.next) (hf : ¬ b.full) (hp : p ∈ b.fl) (hn : p.n = x.flt) {f : Pl → Pl} (hl : (f p).n = p.n ∧ Good (f p).r ∧ QOk (f p).q ∧ LocP (b.L ++ [x]) (f p)) :
    Core { b.put x.flt f (b.L ++ [x]) with next := b.next + 1 } := by
  unfold Book.full at hf
  refine k.swap (next := b.next + 1) ⟨by omega, by omega⟩ (fun p' hp' hn' => ?_) (krise_snoc k.ids fun y hy => by rw [hid]; exact k.fresh hy) (fun y hy => ?_) (by rw [List.length_append, List.length_singleton]; omega) (fun y hy => ?_) fun y _ _ => ⟨p, hp, hn⟩
  · obtain rfl : p' = p := k.uniqP hp' hp (by omega)
    exact ⟨by rw [hl.1]; exact hn, hl.2.1, hl.2.2.1, hl.2.2.2⟩
  · rcases mem_snoc.1 hy with hy | rfl
    · exact (k.each y hy).le (by omega)
    · exact hx
  · refine mem_snoc.trans ⟨fun h => ?_, fun h => .inl h⟩
    rcases h with h | rfl
    · exact h
    · exact absurd rfl hy
theorem core_hold (k : Core b) (hc : RightC c) (hp : b.at c.flt = some p) (hf : ¬ b.full) (ht : (rtakeF p.r b.next c.cls c.many).2 = 0) :
    Core { b.put c.flt (takeP b.next c.cls c.many) (b.L ++ [heldX b c]) with next := b.next + 1 } := by
  obtain ⟨hp1, hp2⟩ := at_some hp
  have hnx := k.next
  refine core_add k (x := heldX b c) ⟨⟨hnx.1, by show b.next < b.next + 1; omega⟩, hc.flt, hc.cls, hc.many, ⟨by show (1 : Int) ≤ 1; omega, by show (1 : Int) ≤ 3; omega⟩, hc.time, fun h => absurd rfl h⟩ rfl hf hp1 hp2 ?_
  refine ⟨take_num.1, good_take (k.good p hp1) _ _ _, k.qok p hp1, ?_⟩
  have hl := k.loc p hp1
  have hnum : (takeP b.next c.cls c.many p).n = p.n := take_num.1
  refine ⟨fun y hy e => ?_, fun v hv => ?_, fun h hh => ?_⟩
  · rcases mem_snoc.1 hy with hy | rfl
    · have h := hl.has y hy (by rw [e, hnum])
      unfold HasP at *
      by_cases h3 : y.state = 3
      · rw [if_pos h3] at h ⊢
        exact ⟨h.1, by show y.cls < ((rtakeF _ _ _ _).1.lims.length : Int); rw [take_num.2]; exact h.2⟩
      · rw [if_neg h3] at h ⊢
        obtain ⟨h, hh, a⟩ := h
        exact ⟨h, (take_mem ht).2 (.inr hh), a⟩
    · unfold HasP
      rw [if_neg (by show (1 : Int) ≠ 3; omega)]
      exact ⟨⟨b.next, c.cls, c.many, []⟩, (take_mem ht).2 (.inl rfl), rfl, rfl, rfl⟩
  · obtain ⟨y, hy, a1, a2, a3⟩ := hl.backQ v hv
    exact ⟨y, mem_snoc.2 (.inl hy), a1, by rw [a2, hnum], a3⟩
  · rcases (take_mem ht).1 hh with rfl | hh
    · exact ⟨heldX b c, mem_snoc.2 (.inr rfl), rfl, by show c.flt = _; rw [hnum]; exact hp2.symm, by show (1 : Int) ≠ 3; omega⟩
    · obtain ⟨y, hy, a1, a2, a3⟩ := hl.backH h hh
      exact ⟨y, mem_snoc.2 (.inl hy), a1, by rw [a2, hnum], a3⟩
theorem qadd_facts {q : List Wt} (h : (qadd q w).2 = 0) : w.Ok ∧ hasQ w.id q = false ∧ q.length < 200 ∧ qadd q w = (insQ w q, 0) := by
  unfold qadd at *
  split at h
  · cases h
  rename_i h1
  split at h
  · cases h
  rename_i h2
  split at h
  · cases h
  rename_i h3
  rw [if_neg h1, if_neg h2, if_neg h3]
  exact ⟨by simpa using h1, by simpa using h2, by omega, rfl⟩
theorem core_wait (k : Core b) (hc : RightC c) (hs : c.sc < 18446744073709551616) (hp : b.at c.flt = some p) (hcl : ¬ (p.r.lims.length : Int) ≤ c.cls) (hf : ¬ b.full) (hq : (qadd p.q (waitW b c)).2 = 0) : Core (queued b c) := by
  obtain ⟨hp1, hp2⟩ := at_some hp
  obtain ⟨q1, q2, q3, _⟩ := qadd_facts hq
  have hnx := k.next
  refine core_add k (x := waitX b c) ⟨⟨hnx.1, by show b.next < b.next + 1; omega⟩, hc.flt, hc.cls, hc.many, ⟨by show (1 : Int) ≤ 3; omega, by show (3 : Int) ≤ 3; omega⟩, ⟨Int.le_refl _, by show (0 : Int) ≤ _; omega⟩, fun _ => rfl⟩ rfl hf hp1 hp2 ?_
  refine ⟨rfl, k.good p hp1, (k.qok p hp1).ins q1 hs q2 q3, ?_⟩
  have hl := k.loc p hp1
  refine ⟨fun y hy e => ?_, fun v hv => ?_, fun h hh => ?_⟩
  · rcases mem_snoc.1 hy with hy | rfl
    · have h := hl.has y hy e
      unfold HasP at *
      by_cases h3 : y.state = 3
      · rw [if_pos h3] at h ⊢
        obtain ⟨⟨v, hv, a⟩, a4⟩ := h
        exact ⟨⟨v, insQ_mem.2 (.inr hv), a⟩, a4⟩
      · rw [if_neg h3] at h ⊢
        exact h
    · unfold HasP
      rw [if_pos (by rfl)]
      exact ⟨⟨waitW b c, insQ_mem.2 (.inl rfl), rfl, rfl, rfl⟩, by show c.cls < (p.r.lims.length : Int); omega⟩
  · rcases insQ_mem.1 hv with rfl | hv
    · exact ⟨waitX b c, mem_snoc.2 (.inr rfl), rfl, hp2.symm, rfl⟩
    · obtain ⟨y, hy, a⟩ := hl.backQ v hv
      exact ⟨y, mem_snoc.2 (.inl hy), a⟩
  · obtain ⟨y, hy, a⟩ := hl.backH h hh
    exact ⟨y, mem_snoc.2 (.inl hy), a⟩
theorem core_sure (k : Core b) (hx : x ∈ b.L) (hs : x.state = 1) : Core { b with L := kset Bk.id x.id sureX b.L } := by
  have hmem : ∀ {y}, y ∈ kset Bk.id x.id sureX b.L → y = sureX x ∨ (y ∈ b.L ∧ y.id ≠ x.id) := fun {y} hy => by
    obtain ⟨z, hz, rfl⟩ := mem_kset.1 hy
    by_cases e : z.id = x.id
    · rw [if_pos e, k.uniq hz hx e]; exact .inl rfl
    · rw [if_neg e]; exact .inr ⟨hz, e⟩
  have hput : ∀ {y}, y ∈ b.L → y.id ≠ x.id → y ∈ kset Bk.id x.id sureX b.L := fun {y} hy e => mem_kset.2 ⟨y, hy, by rw [if_neg e]⟩
  have hnew : sureX x ∈ kset Bk.id x.id sureX b.L := mem_kset.2 ⟨x, hx, by rw [if_pos rfl]⟩
  refine ⟨k.now, k.next, k.good, k.qok, k.nums, k.few, kset_rise k.ids fun _ _ e => e, fun y hy => ?_, by show (kset Bk.id _ _ b.L).length ≤ _; rw [kset_len]; exact k.many, fun y hy => ?_, fun p hp => ?_⟩
  · rcases hmem hy with rfl | ⟨hy, _⟩
    · have hb := k.each x hx
      exact ⟨hb.id, hb.flt, hb.cls, hb.many, ⟨by show (1 : Int) ≤ 2; omega, by show (2 : Int) ≤ 3; omega⟩, ⟨Int.le_refl _, by show (0 : Int) ≤ _; omega⟩, fun _ => rfl⟩
    · exact k.each y hy
  · rcases hmem hy with rfl | ⟨hy, _⟩
    · exact k.there x hx
    · exact k.there y hy
  · have hl := k.loc p hp
    refine ⟨fun y hy e => ?_, fun w hw => ?_, fun h hh => ?_⟩
    · rcases hmem hy with rfl | ⟨hy, _⟩
      · have h := hl.has x hx e
        unfold HasP at *
        rw [if_neg (by omega)] at h
        rw [if_neg (by show (2 : Int) ≠ 3; omega)]
        exact h
      · exact hl.has y hy e
    · obtain ⟨y, hy, a1, a2, a3⟩ := hl.backQ w hw
      refine ⟨y, hput hy fun e => ?_, a1, a2, a3⟩
      rw [k.uniq hy hx e] at a3
      omega
    · obtain ⟨y, hy, a1, a2, a3⟩ := hl.backH h hh
      by_cases e : y.id = x.id
      · rw [k.uniq hy hx e] at a1 a2
        exact ⟨sureX x, hnew, a1, a2, by show (2 : Int) ≠ 3; omega⟩
      · exact ⟨y, hput hy e, a1, a2, a3⟩
theorem core_seat (k : Core b) {r : RF} (hp : b.at n = some p) (g : Good r) (h : Seatly p.r r) : Core (b.put n (seatP r) b.L) := by
  obtain ⟨hp1, hp2⟩ := at_some hp
  refine k.swap (next := b.next) ⟨Int.le_refl _, k.next.2⟩ (fun p' hp' hn' => ?_) k.ids k.each k.many (fun y _ => Iff.rfl) fun y _ _ => ⟨p, hp1, hp2⟩
  obtain rfl : p' = p := k.uniqP hp' hp1 (by omega)
  have hl := k.loc _ hp1
  have hnum : (seatP r p').n = p'.n := h.num
  refine ⟨by rw [hnum]; exact hp2, g, k.qok p' hp1, fun y hy e => ?_, fun w hw => ?_, fun o ho => ?_⟩
  · have h2 := hl.has y hy (by rw [e, hnum])
    unfold HasP at *
    by_cases h3 : y.state = 3
    · rw [if_pos h3] at h2 ⊢
      exact ⟨h2.1, by show y.cls < (r.lims.length : Int); rw [h.lims]; exact h2.2⟩
    · rw [if_neg h3] at h2 ⊢
      obtain ⟨o, ho, a1, a2, a3⟩ := h2
      obtain ⟨o', ho', c1, c2, c3⟩ := h.mem ho
      exact ⟨o', ho', by omega, by omega, by omega⟩
  · obtain ⟨y, hy, a1, a2, a3⟩ := hl.backQ w hw
    exact ⟨y, hy, a1, by rw [a2, hnum], a3⟩
  · obtain ⟨o', ho', c1, _, _⟩ := h.symm.mem ho
    obtain ⟨y, hy, a1, a2, a3⟩ := hl.backH o' ho'
    exact ⟨y, hy, by omega, by rw [a2, hnum], a3⟩
theorem core_now (k : Core b) {t : Int} (h : 0 ≤ t ∧ t ≤ 1099511627776) : Core { b with now := t } := ⟨h, k.next, k.good, k.qok, k.nums, k.few, k.ids, k.each, k.many, k.there, k.loc⟩
theorem drop_now : (dropB b x).now = b.now := rfl
theorem exp_ok : ∀ (l : List Bk) {b : Book}, Core b → (∀ x ∈ l, x ∈ b.L) → KRise Bk.id l →
    Core (expAll l b) ∧ (expAll l b).now = b.now ∧ (expAll l b).next = b.next ∧ ((expAll l b).fl.map Pl.n = b.fl.map Pl.n) ∧ ∀ y, y ∈ (expAll l b).L ↔ y ∈ b.L ∧ ¬ (y ∈ l ∧ old b.now y = true)
  | [], b, k, _, _ => ⟨k, rfl, rfl, rfl, fun y => by simp [expAll]⟩
  | x :: l, b, k, hl, hr => by
    have hp := List.pairwise_cons.1 hr
    have hx := hl x (by simp)
    unfold expAll
    by_cases ho : old b.now x = true
    · rw [if_pos ho]
      have hs : x.state = 1 := by unfold old at ho; simp at ho; exact ho.1
      have k' := core_drop k hx (by omega)
      have hin : ∀ y ∈ l, y ∈ (dropB b x).L := fun y hy => mem_kdel.2 ⟨hl y (by simp [hy]), by have := hp.1 y hy; omega⟩
      obtain ⟨i1, i2, i3, i4, i5⟩ := exp_ok l k' hin hp.2
      refine ⟨i1, i2, i3, i4.trans (kset_keys (fun q e => by show (rgiveF _ _).1.num = _; rw [give_num.1]; exact e) _), fun y => ?_⟩
      rw [i5, drop_now]
      have hm : y ∈ (dropB b x).L ↔ y ∈ b.L ∧ y.id ≠ x.id := mem_kdel
      rw [hm, List.mem_cons]
      constructor
      · rintro ⟨⟨h1, h2⟩, h3⟩
        refine ⟨h1, fun ⟨h4, h5⟩ => ?_⟩
        rcases h4 with rfl | h4
        · exact h2 rfl
        · exact h3 ⟨h4, h5⟩
      · rintro ⟨h1, h2⟩
        refine ⟨⟨h1, fun e => h2 ⟨.inl (k.uniq h1 hx e), ?_⟩⟩, fun ⟨h4, h5⟩ => h2 ⟨.inr h4, h5⟩⟩
        rw [k.uniq h1 hx e]; exact ho
    · rw [if_neg ho]
      obtain ⟨i1, i2, i3, i4, i5⟩ := exp_ok l k (fun y hy => hl y (by simp [hy])) hp.2
      refine ⟨i1, i2, i3, i4, fun y => ?_⟩
      rw [i5, List.mem_cons]
      constructor
      · rintro ⟨h1, h2⟩
        refine ⟨h1, fun ⟨h4, h5⟩ => ?_⟩
        rcases h4 with rfl | h4
        · exact ho h5
        · exact h2 ⟨h4, h5⟩
      · rintro ⟨h1, h2⟩
        exact ⟨h1, fun ⟨h4, h5⟩ => h2 ⟨.inr h4, h5⟩⟩
theorem ticked_ok (k : Core b) {t : Int} (h : 0 ≤ t ∧ t ≤ 1099511627776) : Core (ticked b t) ∧ Timely (ticked b t) ∧ (ticked b t).now = t ∧ (ticked b t).next = b.next ∧ (ticked b t).fl.map Pl.n = b.fl.map Pl.n := by
  obtain ⟨i1, i2, i3, i4, i5⟩ := exp_ok b.L (core_now k h) (fun x hx => hx) k.ids
  refine ⟨i1, fun y hy hs => ?_, i2, i3, i4⟩
  obtain ⟨h1, h2⟩ := (i5 y).1 hy
  show (ticked b t).now < _
  rw [show (ticked b t).now = t from i2]
  refine Int.not_le.1 fun h3 => h2 ⟨h1, ?_⟩
  unfold old
  simp [hs]
  exact h3
theorem promAll_ok : ∀ (l : List Int) {b : Book}, Core b → Timely b → ∀ S : Int → Prop, (∀ p ∈ b.fl, S p.n → NoFit p) →
    Core (promAll l b) ∧ Timely (promAll l b) ∧ (promAll l b).now = b.now ∧ (promAll l b).next = b.next ∧ (promAll l b).fl.map Pl.n = b.fl.map Pl.n ∧ ∀ p ∈ (promAll l b).fl, (S p.n ∨ p.n ∈ l) → NoFit p
  | [], b, k, t, S, h => ⟨k, t, rfl, rfl, rfl, fun p hp e => h p hp (by simpa using e)⟩
  | n :: l, b, k, t, S, h => by
    obtain ⟨p1, p2, p3, p4⟩ := promote_ok (n := n) k
    obtain ⟨i1, i2, i3, i4, i5, i6⟩ := promAll_ok l p1 (p3 t) (fun k => S k ∨ k = n) fun p hp e => by
      by_cases hn : p.n = n
      · exact p4 p hp hn
      · rcases p2.others p hp with h2 | h2
        · exact absurd h2 hn
        · exact h p h2 (e.resolve_right hn)
    refine ⟨i1, i2, i3.trans p2.now, i4.trans p2.next, i5.trans p2.keys, fun p hp e => i6 p hp ?_⟩
    rcases e with e | e
    · exact .inl (.inl e)
    · rcases List.mem_cons.1 e with e | e
      · exact .inl (.inr e)
      · exact .inr e
theorem BookOk.promoted (k : Core b) (t : Timely b) (h : ∀ p ∈ b.fl, p.n = n ∨ NoFit p) : BookOk (promote n b) := by
  obtain ⟨p1, p2, p3, p4⟩ := promote_ok (n := n) k
  refine ⟨p1, p3 t, fun p hp => ?_⟩
  by_cases e : p.n = n
  · exact p4 p hp e
  · rcases p2.others p hp with h2 | h2
    · exact absurd h2 e
    · exact (h p h2).resolve_left e
theorem nofit_nil {r : RF} : NoFit ⟨r, []⟩ := rfl
theorem nofit_take (g : Good p.r) (hq : QOk p.q) (h : NoFit p) {id cls many : Int} (ht : (rtakeF p.r id cls many).2 = 0) : NoFit (takeP id cls many p) := by
  unfold NoFit qfirst at *
  rw [List.find?_eq_none] at *
  intro w hw hf
  exact h w hw (fits_take g ht (hq.ok w hw).2.1.1 hf)
theorem nofit_seat {r : RF} (h : NoFit p) (hs : Seatly p.r r) : NoFit (seatP r p) := by
  unfold NoFit at *
  show qfirst p.q (rleftsF r) = none
  rw [hs.lefts]
  exact h
theorem put_fl {f : Pl → Pl} {L : List Bk} {q : Pl} (h : q ∈ (b.put n f L).fl) : (∃ p ∈ b.fl, p.n = n ∧ q = f p) ∨ (q ∈ b.fl ∧ q.n ≠ n) := by
  obtain ⟨z, hz, rfl⟩ := mem_kset.1 h
  by_cases e : z.n = n
  · rw [if_pos e]; exact .inl ⟨z, hz, e, rfl⟩
  · rw [if_neg e]; exact .inr ⟨hz, e⟩
theorem ok_open (k : BookOk b) : BookOk (openB b c).1 := by
  unfold openB
  split
  · exact k
  rename_i h1
  split
  · exact k
  rename_i h2
  split
  · exact k
  rename_i h3
  have hn : b.at c.flt = none := by cases e : b.at c.flt with | none => rfl | some p => rw [e] at h1; simp at h1
  have h3 : newOk c.flt c.rows c.grps c.parts := Classical.byContradiction h3
  refine ⟨core_open k.core (good_new h3) rfl hn (by omega), k.time, fun p hp => ?_⟩
  rcases mem_kins.1 hp with rfl | hp
  · exact nofit_nil
  · exact k.nofit p hp
theorem ok_hold (k : BookOk b) (hc : RightC c) : BookOk (heldB b c).1 := by
  unfold heldB
  cases hp : b.at c.flt with
  | none => exact k
  | some p =>
    dsimp only
    split
    · exact k
    rename_i h1
    split
    · exact k
    rename_i h2
    split
    · exact k
    rename_i h3
    have h3 : (rtakeF p.r b.next c.cls c.many).2 = 0 := Classical.byContradiction h3
    obtain ⟨hp1, hp2⟩ := at_some hp
    refine ⟨core_hold k.core hc hp h2 h3, fun y hy hs => ?_, fun q hq => ?_⟩
    · rcases mem_snoc.1 hy with hy | rfl
      · exact k.time y hy hs
      · show b.now < c.time; omega
    · rcases put_fl (b := b) (L := b.L) hq with ⟨z, hz, e, rfl⟩ | ⟨hq, _⟩
      · obtain rfl : z = p := k.core.uniqP hz hp1 (by omega)
        exact nofit_take (k.core.good _ hz) (k.core.qok _ hz) (k.nofit _ hz) h3
      · exact k.nofit q hq
theorem ok_wait (k : BookOk b) (hc : RightC c) (hs : c.sc < 18446744073709551616) : BookOk (waitB b c).1 := by
  unfold waitB
  cases hp : b.at c.flt with
  | none => exact k
  | some p =>
    dsimp only
    split
    · exact k
    rename_i h1
    split
    · exact k
    rename_i h2
    split
    · exact k
    rename_i h3
    have h3 : (qadd p.q (waitW b c)).2 = 0 := Classical.byContradiction h3
    refine BookOk.promoted (core_wait k.core hc hs hp h1 h2 h3) (fun y hy hs => ?_) fun q hq => ?_
    · rcases mem_snoc.1 hy with hy | rfl
      · exact k.time y hy hs
      · exact absurd hs (by show (3 : Int) ≠ 1; omega)
    · rcases put_fl (b := b) (L := b.L) hq with ⟨z, hz, e, rfl⟩ | ⟨hq, _⟩
      · exact .inl e
      · exact .inr (k.nofit q hq)
theorem ok_clock (k : BookOk b) (hc : RightC c) : BookOk (clockB b c).1 := by
  unfold clockB
  split
  · exact k
  obtain ⟨t1, t2, t3, t4, t5⟩ := ticked_ok k.core hc.time
  obtain ⟨p1, p2, p3, p4, p5, p6⟩ := promAll_ok (b.fl.map Pl.n) t1 t2 (fun _ => False) fun p _ h => h.elim
  refine ⟨p1, p2, fun p hp => p6 p hp (.inr ?_)⟩
  rw [← t5, ← p5]
  exact List.mem_map_of_mem hp
theorem ok_one (k : BookOk b) (hx : x ∈ b.L) : BookOk (oneB b x c).1 := by
  unfold oneB
  cases hp : b.at x.flt with
  | none => exact k
  | some p =>
    obtain ⟨hp1, hp2⟩ := at_some hp
    dsimp only
    split
    · split
      · exact k
      · rename_i h
        have h : x.state = 1 := Classical.byContradiction h
        refine ⟨core_sure k.core hx h, fun y hy hs => ?_, k.nofit⟩
        obtain ⟨z, hz, rfl⟩ := mem_kset.1 hy
        by_cases e : z.id = x.id
        · rw [if_pos e] at hs; exact absurd hs (by show (2 : Int) ≠ 1; omega)
        · rw [if_neg e] at hs ⊢; exact k.time z hz hs
    · split
      · exact BookOk.promoted (core_gone k.core hx) (gone_timely k.time) fun q hq => (gone_fl hq).imp_right (k.nofit q)
      · split
        · exact k
        · have seat : ∀ r, Good r → Seatly p.r r → BookOk (b.put x.flt (seatP r) b.L) := fun r g hs => by
            refine ⟨core_seat k.core hp g hs, fun y hy => k.time y hy, fun q hq => ?_⟩
            rcases put_fl (b := b) (L := b.L) hq with ⟨z, hz, e, rfl⟩ | ⟨hq, _⟩
            · obtain rfl : z = p := k.core.uniqP hz hp1 (by omega)
              exact nofit_seat (k.nofit _ hz) hs
            · exact k.nofit q hq
          split
          · split
            · exact k
            · rename_i h
              exact seat _ (good_seat (k.core.good p hp1) _ _) (seat_ly (k.core.good p hp1) (Classical.byContradiction h))
          · split
            · exact k
            · rename_i h
              exact seat _ (good_auto (k.core.good p hp1) _) (auto_ly (Classical.byContradiction h))
theorem named_mem {s : ByteArray} {e : Int} (h : namedB b s = (some x, e)) : x ∈ b.L := by
  unfold namedB at h
  split at h
  · cases h
  · split at h
    · cases h
    · rename_i y hy
      cases h
      exact (kget_some hy).1
theorem ok_apply (k : BookOk b) (hs : c.sc < 18446744073709551616) : BookOk (applyB b c).1 := by
  unfold applyB
  split
  · exact k
  rename_i hc
  have hc : RightC c := Classical.byContradiction hc
  split
  · exact ok_open k
  split
  · exact ok_hold k hc
  split
  · exact ok_wait k hc hs
  split
  · exact ok_clock k hc
  split
  · exact k
  split
  · exact k
  · rename_i hnm
    exact ok_one k (named_mem hnm)
end Go.Proofs.YtfgbbckfikiomaaGreatDoor
/- The book, plainly: errors, the time, names, what a reply may be. No condition. -/
namespace Go.Proofs.YtfgbbckfikiomaaGreatDoor
set_option linter.unusedVariables false
open Go Go.VC
variable {b : Book} {n : Int} {p : Pl} {w : Wt} {x : Bk} {c : Cm}
theorem tell_code {b : Book} {x : Bk} : (tellB b x).code = 0 := by
  unfold tellB
  split <;> rfl
theorem keeps_open : (openB b c).1.now = b.now ∧ (openB b c).1.next = b.next := by
  unfold openB
  split
  · exact ⟨rfl, rfl⟩
  · split
    · exact ⟨rfl, rfl⟩
    · split <;> exact ⟨rfl, rfl⟩
theorem keeps_one (k : BookOk b) (hx : x ∈ b.L) : (oneB b x c).1.now = b.now ∧ (oneB b x c).1.next = b.next := by
  unfold oneB
  split
  · exact ⟨rfl, rfl⟩
  · split
    · split <;> exact ⟨rfl, rfl⟩
    · split
      · obtain ⟨_, p2, _, _⟩ := promote_ok (n := x.flt) (core_gone k.core hx)
        refine ⟨p2.now.trans ?_, p2.next.trans ?_⟩ <;>
        · unfold gone dropB
          split <;> rfl
      · split
        · exact ⟨rfl, rfl⟩
        · split
          · split <;> exact ⟨rfl, rfl⟩
          · split <;> exact ⟨rfl, rfl⟩
theorem wait_cases (k : BookOk b) (hc : RightC c) (hs : c.sc < 18446744073709551616) :
    ((waitB b c).2.code ≠ 0 ∧ (waitB b c).1 = b) ∨
    (∃ p y, b.at c.flt = some p ∧ ¬ (p.r.lims.length : Int) ≤ c.cls ∧ ¬ b.full ∧ (qadd p.q (waitW b c)).2 = 0 ∧ Core (queued b c) ∧
      y ∈ (promote c.flt (queued b c)).L ∧ y.id = b.next ∧ y.flt = c.flt ∧ y.cls = c.cls ∧ y.many = c.many ∧ y.till = 0 ∧
      waitB b c = (promote c.flt (queued b c), tellB (promote c.flt (queued b c)) y)) := by
  unfold waitB
  cases hp : b.at c.flt with
  | none => exact .inl ⟨by show (2 : Int) ≠ 0; omega, rfl⟩
  | some p =>
    dsimp only
    split
    · exact .inl ⟨by show (1 : Int) ≠ 0; omega, rfl⟩
    rename_i h1
    split
    · exact .inl ⟨by show (3 : Int) ≠ 0; omega, rfl⟩
    rename_i h2
    split
    · rename_i h3; exact .inl ⟨h3, rfl⟩
    rename_i h3
    have h3 : (qadd p.q (waitW b c)).2 = 0 := Classical.byContradiction h3
    have kc := core_wait k.core hc hs hp h1 h2 h3
    obtain ⟨p1, p2, _, _⟩ := promote_ok (n := c.flt) kc
    have hid : b.next ∈ (promote c.flt (queued b c)).L.map Bk.id := by
      rw [p2.ids]
      exact List.mem_map.2 ⟨waitX b c, mem_snoc.2 (.inr rfl), rfl⟩
    obtain ⟨y, hy, he⟩ := List.mem_map.1 hid
    obtain ⟨z, hz, a1, a2, a3, a4, a5⟩ := p2.bk y hy
    have hzx : z = waitX b c := by
      rcases mem_snoc.1 hz with hz | rfl
      · have := k.core.fresh hz; omega
      · rfl
    subst hzx
    refine .inr ⟨p, y, rfl, h1, h2, h3, kc, hy, he, a2, a3, a4, a5, ?_⟩
    rw [(bk_iff p1).2 ⟨hy, he⟩]
theorem names_apply (k : BookOk b) (hs : c.sc < 18446744073709551616) (hk : c.kind = 2 ∨ c.kind = 7) (he : (applyB b c).2.code = 0) :
    (applyB b c).2.pnr = locS b.next ∧ (applyB b c).2.flt = c.flt ∧ (applyB b c).2.cls = c.cls ∧ (applyB b c).2.many = c.many ∧ (applyB b c).1.next = b.next + 1 ∧ b.next < 28629151 := by
  unfold applyB at *
  by_cases h1 : RightC c
  · rw [if_neg (fun h => h h1), if_neg (by omega)] at *
    by_cases h2 : c.kind = 2
    · rw [if_pos h2] at *
      unfold heldB at *
      cases hp : b.at c.flt with
      | none => rw [hp] at he; exact absurd he (by show (2 : Int) ≠ 0; omega)
      | some p =>
        rw [hp] at he
        dsimp only at he ⊢
        split at he
        · exact absurd he (by show (1 : Int) ≠ 0; omega)
        rename_i h3
        split at he
        · exact absurd he (by show (3 : Int) ≠ 0; omega)
        rename_i h4
        split at he
        · rename_i h5; exact absurd he h5
        rename_i h5
        rw [if_neg h3, if_neg h4, if_neg h5]
        unfold Book.full at h4
        exact ⟨rfl, rfl, rfl, rfl, rfl, by omega⟩
    · rw [if_neg h2, if_pos (by omega)] at *
      rcases wait_cases k h1 hs with ⟨h, _⟩ | ⟨_, y, _, _, h4, _, kc, hy, e1, e2, e3, e4, e5, e⟩
      · exact absurd he h
      · have p2 := (promote_ok (n := c.flt) kc)
        obtain ⟨q, hq⟩ := p2.1.at_of hy
        rw [e]
        unfold tellB
        rw [hq]
        unfold Book.full at h4
        exact ⟨by show locS y.id = _; rw [e1], e2, e3, e4, p2.2.1.next, by omega⟩
  · rw [if_pos h1] at he
    exact absurd he (by show (1 : Int) ≠ 0; omega)
theorem next_le (k : BookOk b) (hs : c.sc < 18446744073709551616) : b.next ≤ (applyB b c).1.next := by
  unfold applyB
  split
  · exact Int.le_refl _
  rename_i hc
  have hc : RightC c := Classical.byContradiction hc
  split
  · exact Int.le_of_eq keeps_open.2.symm
  split
  · unfold heldB
    split
    · exact Int.le_refl _
    · split
      · exact Int.le_refl _
      · split
        · exact Int.le_refl _
        · split
          · exact Int.le_refl _
          · show b.next ≤ b.next + 1; omega
  split
  · rcases wait_cases k hc hs with ⟨_, h⟩ | ⟨_, y, _, _, _, _, kc, _, _, _, _, _, _, e⟩
    · rw [h]; exact Int.le_refl _
    · rw [e]
      have h2 : (promote c.flt (queued b c)).next = b.next + 1 := (promote_ok (n := c.flt) kc).2.1.next
      show b.next ≤ (promote c.flt (queued b c)).next
      omega
  split
  · unfold clockB
    split
    · exact Int.le_refl _
    · obtain ⟨t1, t2, t3, t4, t5⟩ := ticked_ok k.core hc.time
      obtain ⟨p1, p2, p3, p4, p5, p6⟩ := promAll_ok (b.fl.map Pl.n) t1 t2 (fun _ => False) fun p _ h => h.elim
      exact Int.le_of_eq (p4.trans t4).symm
  split
  · exact Int.le_refl _
  split
  · exact Int.le_refl _
  · rename_i hnm
    exact Int.le_of_eq (keeps_one k (named_mem hnm)).2.symm
end Go.Proofs.YtfgbbckfikiomaaGreatDoor
/- The book, plainly: what a reply may be. No condition. -/
namespace Go.Proofs.YtfgbbckfikiomaaGreatDoor
set_option linter.unusedVariables false
open Go Go.VC
variable {b : Book} {n : Int} {p : Pl} {w : Wt} {x : Bk} {c : Cm} {r : RF}
theorem mnF_bd {f : Nat → Int} : ∀ {k : Nat}, (∀ i, i < k → 0 ≤ f i) → 0 ≤ mnF f k ∧ mnF f k ≤ 10000
  | 0, _ => by show (0 : Int) ≤ 10000 ∧ (10000 : Int) ≤ 10000; omega
  | k + 1, h => by
    have h1 := mnF_bd (k := k) fun i hi => h i (by omega)
    have h2 := h k (by omega)
    unfold mnF
    split <;> omega
theorem lefts_bd (g : Good r) : (rleftsF r).length ≤ 8 ∧ ∀ y ∈ rleftsF r, 0 ≤ y ∧ y ≤ 10000 := by
  have h8 := (good_lims g).2.2
  refine ⟨by rw [lefts_len]; exact h8, fun y hy => ?_⟩
  obtain ⟨k, hk, rfl⟩ := List.mem_map.1 hy
  have hk := List.mem_range.1 hk
  rw [(left_val g hk).1]
  refine mnF_bd fun i hi => ?_
  have h := (nestOk_iff.1 g.nest).2.2 i (by omega)
  unfold roomF
  omega
end Go.Proofs.YtfgbbckfikiomaaGreatDoor
/- The book, plainly: its bytes, and what is loaded of them. No condition. -/
namespace Go.Proofs.YtfgbbckfikiomaaGreatDoor
set_option linter.unusedVariables false
open Go Go.VC
open scoped Classical
noncomputable section
variable {b : Book} {n : Int} {p : Pl} {w : Wt} {x : Bk} {r : RF}
def things (l : List Pl) : Nat := (l.map fun p => p.r.L.length + p.q.length).sum
structure BkMay (b : Book) (x : Bk) : Prop where
  id : 1 ≤ x.id ∧ x.id < b.next
  state : 1 ≤ x.state
  held : x.state = 1 → b.now < x.till
  free : x.state ≠ 1 → x.till = 0
  has : ∃ p, b.at x.flt = some p ∧ HasP p x
structure MayB (b : Book) : Prop where
  next : 1 ≤ b.next
  nums : KRise Pl.n b.fl
  ids : KRise Bk.id b.L
  each : ∀ x ∈ b.L, BkMay b x
  things : things b.fl = b.L.length
end
end Go.Proofs.YtfgbbckfikiomaaGreatDoor
/- The formulas of functions of this seat's translation, printed by a program of mine off the translation; each is proved equal to 'fnF' of the function's body, so it is enough for the call. No condition. -/
namespace Go.Proofs.YtfgbbckfikiomaaGreatDoor
open Go Go.VC
set_option linter.unusedVariables false
set_option maxRecDepth 10000
def B221 (a0 : Nat) (b1 : Nat) (K : Value → World → Prop) (w : World) : Prop :=
  Calls Tryz.prog 258 #[.float .f64 a0, .float .f64 b1] w fun e w_1 =>
  ∃ t7 : Int, (e = .returned (.int .i64 t7)) ∧
  K (.int .i64 t7) w_1
def sk221 : Sk := .leaf
theorem ok221 : fnOk Tryz.prog Tryz.f221.ntmps Tryz.f221 sk221 = true := by kernel_rfl
theorem eq221 (a0 : Nat) (b1 : Nat) (K : Value → World → Prop) (w : World) : fnF Tryz.prog cl Tryz.f221 sk221 [.float .f64 a0, .float .f64 b1] K w = B221 a0 b1 K w := by kernel_rfl
theorem call221 (a0 : Nat) (b1 : Nat) (K : Value → World → Prop) (w : World) (h : B221 a0 b1 K w) : Gets Tryz.prog 221 #[.float .f64 a0, .float .f64 b1] w K :=
  calls_of (sk := sk221) cl_ok mixed Tryz.func221 ok221 (args := [.float .f64 a0, .float .f64 b1]) (Nat.le_of_ble_eq_true (by kernel_rfl)) (by rw [eq221]; exact h)
def B258 (x0 : Nat) (y1 : Nat) (K : Value → World → Prop) (w : World) : Prop :=
  Calls Tryz.prog 273 #[.float .f64 x0] w fun e w_1 =>
  ∃ t8 : Bool, (e = .returned (.bool t8)) ∧
  Calls Tryz.prog 273 #[.float .f64 y1] w_1 fun e_1 w_2 =>
  ∃ t10 : Bool, (e_1 = .returned (.bool t10)) ∧
  Br t8
   (Br t10
     (K (.int .i64 0) w_2)
     (K (.int .i64 ((-1))) w_2))
   (Br t10
     (K (.int .i64 1) w_2)
     (∃ t16 : Bool, (∀ w', (fun w' => w' = w_2) w' → ((do eqGuard BinOp.lss 33 (Operand.tmp 14) (Operand.tmp 15) (.float .f64 x0) (.float .f64 y1); binOp BinOp.lss 33 (.float .f64 x0) (.float .f64 y1) : Sem Value)).run Tryz.prog w' = .ok (.bool t16) w') ∧
      Br t16
       (K (.int .i64 ((-1))) w_2)
       (∃ t19 : Bool, (∀ w', (fun w' => w' = w_2) w' → ((do eqGuard BinOp.gtr 33 (Operand.tmp 17) (Operand.tmp 18) (.float .f64 x0) (.float .f64 y1); binOp BinOp.gtr 33 (.float .f64 x0) (.float .f64 y1) : Sem Value)).run Tryz.prog w' = .ok (.bool t19) w') ∧
        Br t19
         (K (.int .i64 1) w_2)
         (K (.int .i64 0) w_2))))
def sk258 : Sk := .leaf
theorem ok258 : fnOk Tryz.prog Tryz.f258.ntmps Tryz.f258 sk258 = true := by kernel_rfl
theorem eq258 (x0 : Nat) (y1 : Nat) (K : Value → World → Prop) (w : World) : fnF Tryz.prog cl Tryz.f258 sk258 [.float .f64 x0, .float .f64 y1] K w = B258 x0 y1 K w := by kernel_rfl
theorem call258 (x0 : Nat) (y1 : Nat) (K : Value → World → Prop) (w : World) (h : B258 x0 y1 K w) : Gets Tryz.prog 258 #[.float .f64 x0, .float .f64 y1] w K :=
  calls_of (sk := sk258) cl_ok mixed Tryz.func258 ok258 (args := [.float .f64 x0, .float .f64 y1]) (Nat.le_of_ble_eq_true (by kernel_rfl)) (by rw [eq258]; exact h)
def B273 (x0 : Nat) (K : Value → World → Prop) (w : World) : Prop :=
  ∃ t5 : Bool, (∀ w', (fun w' => w' = w) w' → ((do eqGuard BinOp.neq 33 (Operand.tmp 3) (Operand.tmp 4) (.float .f64 x0) (.float .f64 x0); binOp BinOp.neq 33 (.float .f64 x0) (.float .f64 x0) : Sem Value)).run Tryz.prog w' = .ok (.bool t5) w') ∧
  K (.bool t5) w
def sk273 : Sk := .leaf
theorem ok273 : fnOk Tryz.prog Tryz.f273.ntmps Tryz.f273 sk273 = true := by kernel_rfl
theorem eq273 (x0 : Nat) (K : Value → World → Prop) (w : World) : fnF Tryz.prog cl Tryz.f273 sk273 [.float .f64 x0] K w = B273 x0 K w := by kernel_rfl
theorem call273 (x0 : Nat) (K : Value → World → Prop) (w : World) (h : B273 x0 K w) : Gets Tryz.prog 273 #[.float .f64 x0] w K :=
  calls_of (sk := sk273) cl_ok mixed Tryz.func273 ok273 (args := [.float .f64 x0]) (Nat.le_of_ble_eq_true (by kernel_rfl)) (by rw [eq273]; exact h)
def B222 (x0 : Int) (y1 : Int) (K : Value → World → Prop) (w : World) : Prop :=
  Calls Tryz.prog 259 #[.int .i64 x0] w fun e w_1 =>
  ∃ t8 : Bool, (e = .returned (.bool t8)) ∧
  Calls Tryz.prog 259 #[.int .i64 y1] w_1 fun e_1 w_2 =>
  ∃ t10 : Bool, (e_1 = .returned (.bool t10)) ∧
  Br t8
   (Br t10
     (K (.int .i64 0) w_2)
     (K (.int .i64 ((-1))) w_2))
   (Br t10
     (K (.int .i64 1) w_2)
     (Br (decide (x0 < y1))
       (K (.int .i64 ((-1))) w_2)
       (Br (decide (x0 > y1))
         (K (.int .i64 1) w_2)
         (K (.int .i64 0) w_2))))
def sk222 : Sk := .leaf
theorem ok222 : fnOk Tryz.prog Tryz.f222.ntmps Tryz.f222 sk222 = true := by kernel_rfl
theorem eq222 (x0 : Int) (y1 : Int) (K : Value → World → Prop) (w : World) : fnF Tryz.prog cl Tryz.f222 sk222 [.int .i64 x0, .int .i64 y1] K w = B222 x0 y1 K w := by kernel_rfl
theorem call222 (x0 : Int) (y1 : Int) (K : Value → World → Prop) (w : World) (h : B222 x0 y1 K w) : Gets Tryz.prog 222 #[.int .i64 x0, .int .i64 y1] w K :=
  calls_of (sk := sk222) cl_ok mixed Tryz.func222 ok222 (args := [.int .i64 x0, .int .i64 y1]) (Nat.le_of_ble_eq_true (by kernel_rfl)) (by rw [eq222]; exact h)
def B220 (vals0 : Sl) (K : Value → World → Prop) (w : World) : Prop :=
  ∃ (I : Int → World → Prop) (μ : Int → World → Nat), (I 0 w) ∧ ∀ (z : Env) (t8 : Int) (w_1 : World), I t8 w_1 →
  Br (decide (t8 < (↑vals0.len : Int)))
   (Rng t8 vals0.len (NilP vals0.a fun a_t10 =>
    ∃ t11 : Int, (At (fun w' => w' = w_1) (Addr.add a_t10 t8.toNat) [.int .i64 t11]) ∧
    Br (t11 != 0)
     (K (.int .i64 t11) w_1)
     ((I (IntKind.i64.wrap (t8 + 1)) w_1) ∧ μ (IntKind.i64.wrap (t8 + 1)) w_1 < μ t8 w_1)))
   (K (.int .i64 0) w_1)
def sk220 : Sk := (.seq .leaf (.seq .leaf (.seq (.seq .leaf (.block (.loop [8] [(.int .i64)] [2, 5, 8, 9, 10, 11, 12, 13, 14, 15, 16] .leaf))) .leaf)))
theorem ok220 : fnOk Tryz.prog Tryz.f220.ntmps Tryz.f220 sk220 = true := by kernel_rfl
theorem eq220 (vals0 : Sl) (K : Value → World → Prop) (w : World) : fnF Tryz.prog cl Tryz.f220 sk220 [.slice vals0.a vals0.len vals0.cap] K w = B220 vals0 K w := by kernel_rfl
theorem call220 (vals0 : Sl) (K : Value → World → Prop) (w : World) (h : B220 vals0 K w) : Gets Tryz.prog 220 #[.slice vals0.a vals0.len vals0.cap] w K :=
  calls_of (sk := sk220) cl_ok mixed Tryz.func220 ok220 (args := [.slice vals0.a vals0.len vals0.cap]) (Nat.le_of_ble_eq_true (by kernel_rfl)) (by rw [eq220]; exact h)
def B111  (K : Value → World → Prop) (w : World) : Prop :=
  New (.cells #[.slice none 0 0] 179 (0, 0)) (fun b_t2 w_1 =>
  K (.pointer ((some ⟨b_t2, 0, none⟩))) w_1) w
def sk111 : Sk := .leaf
theorem ok111 : fnOk Tryz.prog Tryz.f111.ntmps Tryz.f111 sk111 = true := by kernel_rfl
theorem eq111  (K : Value → World → Prop) (w : World) : fnF Tryz.prog cl Tryz.f111 sk111 [] K w = B111  K w := by kernel_rfl
theorem call111  (K : Value → World → Prop) (w : World) (h : B111  K w) : Gets Tryz.prog 111 #[] w K :=
  calls_of (sk := sk111) cl_ok mixed Tryz.func111 ok111 (args := []) (Nat.le_of_ble_eq_true (by kernel_rfl)) (by rw [eq111]; exact h)
def B170 (w0_0 : Int) (w0_1 : Int) (w0_2 : Int) (w0_3 : Int) (w0_4 : Nat) (x1_0 : Int) (x1_1 : Int) (x1_2 : Int) (x1_3 : Int) (x1_4 : Nat) (K : Value → World → Prop) (w : World) : Prop :=
  New (.cells #[.int .i64 w0_0, .int .i64 w0_1, .int .i64 w0_2, .int .i64 w0_3, .float .f64 w0_4] 181 (0, 0)) (fun b_w2 w_1 =>
  New (.cells #[.int .i64 x1_0, .int .i64 x1_1, .int .i64 x1_2, .int .i64 x1_3, .float .f64 x1_4] 181 (0, 0)) (fun b_x3 w_2 =>
  Drw w_2 fun S w_3 =>
  ∃ t7 : Nat, (At S ⟨b_x3, 0 + 4, none⟩ [.float .f64 t7]) ∧
  ∃ t10 : Nat, (At S ⟨b_w2, 0 + 4, none⟩ [.float .f64 t10]) ∧
  ∃ t14 : Int, (At S ⟨b_w2, 0 + 3, none⟩ [.int .i64 t14]) ∧
  ∃ t17 : Int, (At S ⟨b_x3, 0 + 3, none⟩ [.int .i64 t17]) ∧
  ∃ t21 : Int, (At S ⟨b_w2, 0, none⟩ [.int .i64 t21]) ∧
  ∃ t24 : Int, (At S ⟨b_x3, 0, none⟩ [.int .i64 t24]) ∧
  Calls Tryz.prog 221 #[.float .f64 t7, .float .f64 t10] w_3 fun e w_4 =>
  ∃ t11 : Int, (e = .returned (.int .i64 t11)) ∧
  (S w_4) ∧
  Calls Tryz.prog 222 #[.int .i64 t14, .int .i64 t17] w_4 fun e_1 w_5 =>
  ∃ t18 : Int, (e_1 = .returned (.int .i64 t18)) ∧
  (S w_5) ∧
  Calls Tryz.prog 222 #[.int .i64 t21, .int .i64 t24] w_5 fun e_2 w_6 =>
  ∃ t25 : Int, (e_2 = .returned (.int .i64 t25)) ∧
  (S w_6) ∧
  New (.cells #[.int .i64 t11, .int .i64 t18, .int .i64 t25] 3 (0, 0)) (fun b_t26 w_7 =>
  (S w_7) ∧
  Calls Tryz.prog 220 #[.slice ((some ⟨b_t26, 0, none⟩)) 3 3] w_7 fun e_3 w_8 =>
  ∃ t27 : Int, (e_3 = .returned (.int .i64 t27)) ∧
  (S w_8) ∧
  K (.int .i64 t27) w_8) w_6) w_1) w
def sk170 : Sk := .leaf
theorem ok170 : fnOk Tryz.prog Tryz.f170.ntmps Tryz.f170 sk170 = true := by kernel_rfl
theorem eq170 (w0_0 : Int) (w0_1 : Int) (w0_2 : Int) (w0_3 : Int) (w0_4 : Nat) (x1_0 : Int) (x1_1 : Int) (x1_2 : Int) (x1_3 : Int) (x1_4 : Nat) (K : Value → World → Prop) (w : World) : fnF Tryz.prog cl Tryz.f170 sk170 [.agg #[.int .i64 w0_0, .int .i64 w0_1, .int .i64 w0_2, .int .i64 w0_3, .float .f64 w0_4], .agg #[.int .i64 x1_0, .int .i64 x1_1, .int .i64 x1_2, .int .i64 x1_3, .float .f64 x1_4]] K w = B170 w0_0 w0_1 w0_2 w0_3 w0_4 x1_0 x1_1 x1_2 x1_3 x1_4 K w := by kernel_rfl
theorem call170 (w0_0 : Int) (w0_1 : Int) (w0_2 : Int) (w0_3 : Int) (w0_4 : Nat) (x1_0 : Int) (x1_1 : Int) (x1_2 : Int) (x1_3 : Int) (x1_4 : Nat) (K : Value → World → Prop) (w : World) (h : B170 w0_0 w0_1 w0_2 w0_3 w0_4 x1_0 x1_1 x1_2 x1_3 x1_4 K w) : Gets Tryz.prog 170 #[.agg #[.int .i64 w0_0, .int .i64 w0_1, .int .i64 w0_2, .int .i64 w0_3, .float .f64 w0_4], .agg #[.int .i64 x1_0, .int .i64 x1_1, .int .i64 x1_2, .int .i64 x1_3, .float .f64 x1_4]] w K :=
  calls_of (sk := sk170) cl_ok mixed Tryz.func170 ok170 (args := [.agg #[.int .i64 w0_0, .int .i64 w0_1, .int .i64 w0_2, .int .i64 w0_3, .float .f64 w0_4], .agg #[.int .i64 x1_0, .int .i64 x1_1, .int .i64 x1_2, .int .i64 x1_3, .float .f64 x1_4]]) (Nat.le_of_ble_eq_true (by kernel_rfl)) (by rw [eq170]; exact h)
def B179 (w0_0 : Int) (w0_1 : Int) (w0_2 : Int) (w0_3 : Int) (w0_4 : Nat) (K : Value → World → Prop) (w : World) : Prop :=
  New (.cells #[.int .i64 w0_0, .int .i64 w0_1, .int .i64 w0_2, .int .i64 w0_3, .float .f64 w0_4] 181 (0, 0)) (fun b_w1 w_1 =>
  ∃ t7 : Int, (At (fun w' => w' = w_1) ⟨b_w1, 0, none⟩ [.int .i64 t7]) ∧
  Calls Tryz.prog 229 #[.int .i64 t7, .int .i64 1, .int .i64 28629151] w_1 fun e w_2 =>
  ∃ t8 : Bool, (e = .returned (.bool t8)) ∧
  Br t8
   (∃ t13 : Int, (At (fun w' => w' = w_2) ⟨b_w1, 0 + 1, none⟩ [.int .i64 t13]) ∧
    Calls Tryz.prog 229 #[.int .i64 t13, .int .i64 0, .int .i64 7] w_2 fun e_1 w_3 =>
    ∃ t14 : Bool, (e_1 = .returned (.bool t14)) ∧
    Br t14
     (∃ t20 : Int, (At (fun w' => w' = w_3) ⟨b_w1, 0 + 2, none⟩ [.int .i64 t20]) ∧
      Calls Tryz.prog 229 #[.int .i64 t20, .int .i64 1, .int .i64 600] w_3 fun e_2 w_4 =>
      ∃ t21 : Bool, (e_2 = .returned (.bool t21)) ∧
      Br t21
       (∃ t27 : Int, (At (fun w' => w' = w_4) ⟨b_w1, 0 + 3, none⟩ [.int .i64 t27]) ∧
        Calls Tryz.prog 229 #[.int .i64 t27, .int .i64 0, .int .i64 1099511627776] w_4 fun e_3 w_5 =>
        ∃ t28 : Bool, (e_3 = .returned (.bool t28)) ∧
        K (.bool t28) w_5)
       (K (.bool false) w_4))
     (K (.bool false) w_3))
   (K (.bool false) w_2)) w
def sk179 : Sk := .leaf
theorem ok179 : fnOk Tryz.prog Tryz.f179.ntmps Tryz.f179 sk179 = true := by kernel_rfl
theorem eq179 (w0_0 : Int) (w0_1 : Int) (w0_2 : Int) (w0_3 : Int) (w0_4 : Nat) (K : Value → World → Prop) (w : World) : fnF Tryz.prog cl Tryz.f179 sk179 [.agg #[.int .i64 w0_0, .int .i64 w0_1, .int .i64 w0_2, .int .i64 w0_3, .float .f64 w0_4]] K w = B179 w0_0 w0_1 w0_2 w0_3 w0_4 K w := by kernel_rfl
theorem call179 (w0_0 : Int) (w0_1 : Int) (w0_2 : Int) (w0_3 : Int) (w0_4 : Nat) (K : Value → World → Prop) (w : World) (h : B179 w0_0 w0_1 w0_2 w0_3 w0_4 K w) : Gets Tryz.prog 179 #[.agg #[.int .i64 w0_0, .int .i64 w0_1, .int .i64 w0_2, .int .i64 w0_3, .float .f64 w0_4]] w K :=
  calls_of (sk := sk179) cl_ok mixed Tryz.func179 ok179 (args := [.agg #[.int .i64 w0_0, .int .i64 w0_1, .int .i64 w0_2, .int .i64 w0_3, .float .f64 w0_4]]) (Nat.le_of_ble_eq_true (by kernel_rfl)) (by rw [eq179]; exact h)
def B229 (n0 : Int) (low1 : Int) (high2 : Int) (K : Value → World → Prop) (w : World) : Prop :=
  Br (decide (n0 ≥ low1))
   (K (.bool (decide (n0 ≤ high2))) w)
   (K (.bool false) w)
def sk229 : Sk := .leaf
theorem ok229 : fnOk Tryz.prog Tryz.f229.ntmps Tryz.f229 sk229 = true := by kernel_rfl
theorem eq229 (n0 : Int) (low1 : Int) (high2 : Int) (K : Value → World → Prop) (w : World) : fnF Tryz.prog cl Tryz.f229 sk229 [.int .i64 n0, .int .i64 low1, .int .i64 high2] K w = B229 n0 low1 high2 K w := by kernel_rfl
theorem call229 (n0 : Int) (low1 : Int) (high2 : Int) (K : Value → World → Prop) (w : World) (h : B229 n0 low1 high2 K w) : Gets Tryz.prog 229 #[.int .i64 n0, .int .i64 low1, .int .i64 high2] w K :=
  calls_of (sk := sk229) cl_ok mixed Tryz.func229 ok229 (args := [.int .i64 n0, .int .i64 low1, .int .i64 high2]) (Nat.le_of_ble_eq_true (by kernel_rfl)) (by rw [eq229]; exact h)
def B180 (l0 : Option Addr) (id1 : Int) (K : Value → World → Prop) (w : World) : Prop :=
  New (.cells #[.int .i64 id1] 3 (0, 0)) (fun b_id3 w_1 =>
  NilP l0 fun a_t6 =>
  ∃ t8 : Sl, (At (fun w' => w' = w_1) (Addr.add a_t6 0) [.slice t8.a t8.len t8.cap]) ∧
  Calls Tryz.prog 230 #[.slice t8.a t8.len t8.cap, .func (.func 231) #[] #[.pointer ((some ⟨b_id3, 0, none⟩))]] w_1 fun e w_2 =>
  ∃ t10 : Int, (e = .returned (.int .i64 t10)) ∧
  K (.int .i64 t10) w_2) w
def sk180 : Sk := .leaf
theorem ok180 : fnOk Tryz.prog Tryz.f180.ntmps Tryz.f180 sk180 = true := by kernel_rfl
theorem eq180 (l0 : Option Addr) (id1 : Int) (K : Value → World → Prop) (w : World) : fnF Tryz.prog cl Tryz.f180 sk180 [.pointer l0, .int .i64 id1] K w = B180 l0 id1 K w := by kernel_rfl
theorem call180 (l0 : Option Addr) (id1 : Int) (K : Value → World → Prop) (w : World) (h : B180 l0 id1 K w) : Gets Tryz.prog 180 #[.pointer l0, .int .i64 id1] w K :=
  calls_of (sk := sk180) cl_ok mixed Tryz.func180 ok180 (args := [.pointer l0, .int .i64 id1]) (Nat.le_of_ble_eq_true (by kernel_rfl)) (by rw [eq180]; exact h)
def B231 (w0_0 : Int) (w0_1 : Int) (w0_2 : Int) (w0_3 : Int) (w0_4 : Nat) (c1 : Option Addr) (K : Value → World → Prop) (w : World) : Prop :=
  New (.cells #[.int .i64 w0_0, .int .i64 w0_1, .int .i64 w0_2, .int .i64 w0_3, .float .f64 w0_4] 181 (0, 0)) (fun b_w2 w_1 =>
  ∃ t6 : Int, (At (fun w' => w' = w_1) ⟨b_w2, 0, none⟩ [.int .i64 t6]) ∧
  NilP c1 fun a_t7 =>
  ∃ t7 : Int, (At (fun w' => w' = w_1) a_t7 [.int .i64 t7]) ∧
  K (.bool (t6 == t7)) w_1) w
def sk231 : Sk := .leaf
theorem ok231 : fnOk Tryz.prog Tryz.f231.ntmps Tryz.f231 sk231 = true := by kernel_rfl
theorem eq231 (w0_0 : Int) (w0_1 : Int) (w0_2 : Int) (w0_3 : Int) (w0_4 : Nat) (c1 : Option Addr) (K : Value → World → Prop) (w : World) : fnF Tryz.prog cl Tryz.f231 sk231 [.agg #[.int .i64 w0_0, .int .i64 w0_1, .int .i64 w0_2, .int .i64 w0_3, .float .f64 w0_4], .pointer c1] K w = B231 w0_0 w0_1 w0_2 w0_3 w0_4 c1 K w := by kernel_rfl
theorem call231 (w0_0 : Int) (w0_1 : Int) (w0_2 : Int) (w0_3 : Int) (w0_4 : Nat) (c1 : Option Addr) (K : Value → World → Prop) (w : World) (h : B231 w0_0 w0_1 w0_2 w0_3 w0_4 c1 K w) : Gets Tryz.prog 231 #[.agg #[.int .i64 w0_0, .int .i64 w0_1, .int .i64 w0_2, .int .i64 w0_3, .float .f64 w0_4], .pointer c1] w K :=
  calls_of (sk := sk231) cl_ok mixed Tryz.func231 ok231 (args := [.agg #[.int .i64 w0_0, .int .i64 w0_1, .int .i64 w0_2, .int .i64 w0_3, .float .f64 w0_4], .pointer c1]) (Nat.le_of_ble_eq_true (by kernel_rfl)) (by rw [eq231]; exact h)
def B113 (l0 : Option Addr) (w1_0 : Int) (w1_1 : Int) (w1_2 : Int) (w1_3 : Int) (w1_4 : Nat) (K : Value → World → Prop) (w : World) : Prop :=
  New (.cells #[.int .i64 w1_0, .int .i64 w1_1, .int .i64 w1_2, .int .i64 w1_3, .float .f64 w1_4] 65 (0, 0)) (fun b_w3 w_1 =>
  ∃ t8 : Int, ∃ t8_1 : Int, ∃ t8_2 : Int, ∃ t8_3 : Int, ∃ t8_4 : Nat, (At (fun w' => w' = w_1) ⟨b_w3, 0, none⟩ [.int .i64 t8, .int .i64 t8_1, .int .i64 t8_2, .int .i64 t8_3, .float .f64 t8_4]) ∧
  New (.cells #[.int .i64 0, .int .i64 0, .int .i64 0, .int .i64 0, .float .f64 0] 181 (0, 0)) (fun b_x5 w_2 =>
  ∃ w_3 : World, ((Instr.storeAt 181 (.pointer ((some ⟨b_x5, 0, none⟩))) (.agg #[.int .i64 t8, .int .i64 t8_1, .int .i64 t8_2, .int .i64 t8_3, .float .f64 t8_4])).run Tryz.prog w_2 = .ok () w_3) ∧
  ∃ t11 : Int, ∃ t11_1 : Int, ∃ t11_2 : Int, ∃ t11_3 : Int, ∃ t11_4 : Nat, (At (fun w' => w' = w_3) ⟨b_x5, 0, none⟩ [.int .i64 t11, .int .i64 t11_1, .int .i64 t11_2, .int .i64 t11_3, .float .f64 t11_4]) ∧
  Calls Tryz.prog 179 #[.agg #[.int .i64 t11, .int .i64 t11_1, .int .i64 t11_2, .int .i64 t11_3, .float .f64 t11_4]] w_3 fun e w_4 =>
  ∃ t12 : Bool, (e = .returned (.bool t12)) ∧
  Br (!t12)
   (K (.int .i64 1) w_4)
   (∃ t17 : Int, (At (fun w' => w' = w_4) ⟨b_w3, 0, none⟩ [.int .i64 t17]) ∧
    Calls Tryz.prog 180 #[.pointer l0, .int .i64 t17] w_4 fun e_1 w_5 =>
    ∃ t18 : Int, (e_1 = .returned (.int .i64 t18)) ∧
    Br (decide (t18 ≥ 0))
     (K (.int .i64 7) w_5)
     (NilP l0 fun a_t22 =>
      ∃ t24 : Sl, (At (fun w' => w' = w_5) (Addr.add a_t22 0) [.slice t24.a t24.len t24.cap]) ∧
      Br (decide ((↑t24.len : Int) ≥ 200))
       (K (.int .i64 3) w_5)
       (Drw w_5 fun S w_6 =>
        NilP l0 fun a_t29 =>
        ∃ t31 : Sl, (At S (Addr.add a_t29 0) [.slice t31.a t31.len t31.cap]) ∧
        ∃ t32 : Int, ∃ t32_1 : Int, ∃ t32_2 : Int, ∃ t32_3 : Int, ∃ t32_4 : Nat, (At S ⟨b_x5, 0, none⟩ [.int .i64 t32, .int .i64 t32_1, .int .i64 t32_2, .int .i64 t32_3, .float .f64 t32_4]) ∧
        Calls Tryz.prog 181 #[.slice t31.a t31.len t31.cap, .agg #[.int .i64 t32, .int .i64 t32_1, .int .i64 t32_2, .int .i64 t32_3, .float .f64 t32_4], .func (.func 170) #[] #[]] w_6 fun e_2 w_7 =>
        ∃ t33 : Int, ∃ t33_1 : Bool, (e_2 = .returned (.tuple #[.int .i64 t33, .bool t33_1])) ∧
        Drw w_7 fun S_1 w_8 =>
        NilP l0 fun a_t38 =>
        ∃ t40 : Sl, (At S_1 (Addr.add a_t38 0) [.slice t40.a t40.len t40.cap]) ∧
        ∃ t42 : Int, ∃ t42_1 : Int, ∃ t42_2 : Int, ∃ t42_3 : Int, ∃ t42_4 : Nat, (At S_1 ⟨b_x5, 0, none⟩ [.int .i64 t42, .int .i64 t42_1, .int .i64 t42_2, .int .i64 t42_3, .float .f64 t42_4]) ∧
        New (.cells #[.int .i64 t42, .int .i64 t42_1, .int .i64 t42_2, .int .i64 t42_3, .float .f64 t42_4] 181 (0, 0)) (fun b_t43 w_9 =>
        (S_1 w_9) ∧
        Calls Tryz.prog 182 #[.slice t40.a t40.len t40.cap, .int .i64 t33, .slice ((some ⟨b_t43, 0, none⟩)) 1 1] w_9 fun e_3 w_10 =>
        ∃ t44 : Sl, (e_3 = .returned (.slice t44.a t44.len t44.cap)) ∧
        (S_1 w_10) ∧
        NilP l0 fun a_t45 =>
        ∃ w_11 : World, ((Instr.storeAt 177 (.pointer ((some (Addr.add a_t45 0)))) (.slice t44.a t44.len t44.cap)).run Tryz.prog w_10 = .ok () w_11) ∧
        K (.int .i64 0) w_11) w_8)))) w_1) w
def sk113 : Sk := .leaf
theorem ok113 : fnOk Tryz.prog Tryz.f113.ntmps Tryz.f113 sk113 = true := by kernel_rfl
theorem eq113 (l0 : Option Addr) (w1_0 : Int) (w1_1 : Int) (w1_2 : Int) (w1_3 : Int) (w1_4 : Nat) (K : Value → World → Prop) (w : World) : fnF Tryz.prog cl Tryz.f113 sk113 [.pointer l0, .agg #[.int .i64 w1_0, .int .i64 w1_1, .int .i64 w1_2, .int .i64 w1_3, .float .f64 w1_4]] K w = B113 l0 w1_0 w1_1 w1_2 w1_3 w1_4 K w := by kernel_rfl
theorem call113 (l0 : Option Addr) (w1_0 : Int) (w1_1 : Int) (w1_2 : Int) (w1_3 : Int) (w1_4 : Nat) (K : Value → World → Prop) (w : World) (h : B113 l0 w1_0 w1_1 w1_2 w1_3 w1_4 K w) : Gets Tryz.prog 113 #[.pointer l0, .agg #[.int .i64 w1_0, .int .i64 w1_1, .int .i64 w1_2, .int .i64 w1_3, .float .f64 w1_4]] w K :=
  calls_of (sk := sk113) cl_ok mixed Tryz.func113 ok113 (args := [.pointer l0, .agg #[.int .i64 w1_0, .int .i64 w1_1, .int .i64 w1_2, .int .i64 w1_3, .float .f64 w1_4]]) (Nat.le_of_ble_eq_true (by kernel_rfl)) (by rw [eq113]; exact h)
def B116 (l0 : Option Addr) (id1 : Int) (K : Value → World → Prop) (w : World) : Prop :=
  Calls Tryz.prog 180 #[.pointer l0, .int .i64 id1] w fun e w_1 =>
  ∃ t8 : Int, (e = .returned (.int .i64 t8)) ∧
  Br (decide (t8 < 0))
   (K (.int .i64 2) w_1)
   (NilP l0 fun a_t13 =>
    ∃ t15 : Sl, (At (fun w' => w' = w_1) (Addr.add a_t13 0) [.slice t15.a t15.len t15.cap]) ∧
    Calls Tryz.prog 185 #[.slice t15.a t15.len t15.cap, .int .i64 t8, .int .i64 (IntKind.i64.wrap (t8 + 1))] w_1 fun e_1 w_2 =>
    ∃ t19 : Sl, (e_1 = .returned (.slice t19.a t19.len t19.cap)) ∧
    NilP l0 fun a_t20 =>
    ∃ w_3 : World, ((Instr.storeAt 177 (.pointer ((some (Addr.add a_t20 0)))) (.slice t19.a t19.len t19.cap)).run Tryz.prog w_2 = .ok () w_3) ∧
    K (.int .i64 0) w_3)
def sk116 : Sk := .leaf
theorem ok116 : fnOk Tryz.prog Tryz.f116.ntmps Tryz.f116 sk116 = true := by kernel_rfl
theorem eq116 (l0 : Option Addr) (id1 : Int) (K : Value → World → Prop) (w : World) : fnF Tryz.prog cl Tryz.f116 sk116 [.pointer l0, .int .i64 id1] K w = B116 l0 id1 K w := by kernel_rfl
theorem call116 (l0 : Option Addr) (id1 : Int) (K : Value → World → Prop) (w : World) (h : B116 l0 id1 K w) : Gets Tryz.prog 116 #[.pointer l0, .int .i64 id1] w K :=
  calls_of (sk := sk116) cl_ok mixed Tryz.func116 ok116 (args := [.pointer l0, .int .i64 id1]) (Nat.le_of_ble_eq_true (by kernel_rfl)) (by rw [eq116]; exact h)
def B59 (l0 : Option Addr) (K : Value → World → Prop) (w : World) : Prop :=
  NilP l0 fun a_t7 =>
  ∃ t9 : Sl, (At (fun w' => w' = w) (Addr.add a_t7 0) [.slice t9.a t9.len t9.cap]) ∧
  ∃ (I : Sl → Int → World → Prop) (μ : Sl → Int → World → Nat), (I ⟨none, 0, 0⟩ 0 w) ∧ ∀ (z : Env) (out3 : Sl) (t11 : Int) (w_1 : World), I out3 t11 w_1 →
  Br (decide (t11 < (↑t9.len : Int)))
   (Rng t11 t9.len (NilP t9.a fun a_t13 =>
    ∃ t14 : Int, ∃ t14_1 : Int, ∃ t14_2 : Int, ∃ t14_3 : Int, ∃ t14_4 : Nat, (At (fun w' => w' = w_1) (Addr.add a_t13 (mulS t11.toNat 5)) [.int .i64 t14, .int .i64 t14_1, .int .i64 t14_2, .int .i64 t14_3, .float .f64 t14_4]) ∧
    New (.cells #[.int .i64 0, .int .i64 0, .int .i64 0, .int .i64 0, .float .f64 0] 181 (0, 0)) (fun b_w5 w_2 =>
    ∃ w_3 : World, ((Instr.storeAt 181 (.pointer ((some ⟨b_w5, 0, none⟩))) (.agg #[.int .i64 t14, .int .i64 t14_1, .int .i64 t14_2, .int .i64 t14_3, .float .f64 t14_4])).run Tryz.prog w_2 = .ok () w_3) ∧
    ∃ t17 : Int, ∃ t17_1 : Int, ∃ t17_2 : Int, ∃ t17_3 : Int, ∃ t17_4 : Nat, (At (fun w' => w' = w_3) ⟨b_w5, 0, none⟩ [.int .i64 t17, .int .i64 t17_1, .int .i64 t17_2, .int .i64 t17_3, .float .f64 t17_4]) ∧
    New (.cells #[.int .i64 t17, .int .i64 t17_1, .int .i64 t17_2, .int .i64 t17_3, .float .f64 t17_4] 65 (0, 0)) (fun b_t18 w_4 =>
    ∃ w_5 : World, ∃ t19 : Sl, ((Builtin.append_ #[109, 109] 109 #[.slice out3.a out3.len out3.cap, .slice ((some ⟨b_t18, 0, none⟩)) 1 1]).run Tryz.prog w_4 = .ok (.slice t19.a t19.len t19.cap) w_5) ∧
    (I t19 (IntKind.i64.wrap (t11 + 1)) w_5) ∧ μ t19 (IntKind.i64.wrap (t11 + 1)) w_5 < μ out3 t11 w_1) w_3) w_1))
   (K (.slice out3.a out3.len out3.cap) w_1)
def sk59 : Sk := (.seq .leaf (.seq .leaf (.seq (.seq .leaf (.block (.loop [3, 11] [.sl, (.int .i64)] [3, 5, 11, 12, 13, 14, 15, 16, 17, 18, 19, 20] .leaf))) .leaf)))
theorem ok59 : fnOk Tryz.prog Tryz.f59.ntmps Tryz.f59 sk59 = true := by kernel_rfl
theorem eq59 (l0 : Option Addr) (K : Value → World → Prop) (w : World) : fnF Tryz.prog cl Tryz.f59 sk59 [.pointer l0] K w = B59 l0 K w := by kernel_rfl
theorem call59 (l0 : Option Addr) (K : Value → World → Prop) (w : World) (h : B59 l0 K w) : Gets Tryz.prog 59 #[.pointer l0] w K :=
  calls_of (sk := sk59) cl_ok mixed Tryz.func59 ok59 (args := [.pointer l0]) (Nat.le_of_ble_eq_true (by kernel_rfl)) (by rw [eq59]; exact h)
def B183 (l0 : Option Addr) (left1 : Sl) (K : Value → World → Prop) (w : World) : Prop :=
  New (.cells #[.int .i64 0, .int .i64 0, .int .i64 0, .int .i64 0, .float .f64 0] 65 (0, 0)) (fun b_t4 w_1 =>
  NilP l0 fun a_t9 =>
  ∃ t11 : Sl, (At (fun w' => w' = w_1) (Addr.add a_t9 0) [.slice t11.a t11.len t11.cap]) ∧
  ∃ (I : Int → World → Prop) (μ : Int → World → Nat), (I 0 w_1) ∧ ∀ (z : Env) (t13 : Int) (w_2 : World), I t13 w_2 →
  Br (decide (t13 < (↑t11.len : Int)))
   (Rng t13 t11.len (NilP t11.a fun a_t15 =>
    ∃ t16 : Int, ∃ t16_1 : Int, ∃ t16_2 : Int, ∃ t16_3 : Int, ∃ t16_4 : Nat, (At (fun w' => w' = w_2) (Addr.add a_t15 (mulS t13.toNat 5)) [.int .i64 t16, .int .i64 t16_1, .int .i64 t16_2, .int .i64 t16_3, .float .f64 t16_4]) ∧
    New (.cells #[.int .i64 0, .int .i64 0, .int .i64 0, .int .i64 0, .float .f64 0] 181 (0, 0)) (fun b_w7 w_3 =>
    ∃ w_4 : World, ((Instr.storeAt 181 (.pointer ((some ⟨b_w7, 0, none⟩))) (.agg #[.int .i64 t16, .int .i64 t16_1, .int .i64 t16_2, .int .i64 t16_3, .float .f64 t16_4])).run Tryz.prog w_3 = .ok () w_4) ∧
    Drw w_4 fun S w_5 =>
    ∃ t19 : Int, (At S ⟨b_w7, 0 + 1, none⟩ [.int .i64 t19]) ∧
    Br (decide (t19 < (↑left1.len : Int)))
     (∃ t26 : Int, (At S ⟨b_w7, 0 + 2, none⟩ [.int .i64 t26]) ∧
      ∃ t30 : Int, (At S ⟨b_w7, 0 + 1, none⟩ [.int .i64 t30]) ∧
      Rng t30 left1.len (NilP left1.a fun a_t31 =>
      ∃ t32 : Int, (At S (Addr.add a_t31 t30.toNat) [.int .i64 t32]) ∧
      Br (decide (t26 ≤ t32))
       (∃ t36 : Int, ∃ t36_1 : Int, ∃ t36_2 : Int, ∃ t36_3 : Int, ∃ t36_4 : Nat, (At (fun w' => w' = w_5) ⟨b_w7, 0, none⟩ [.int .i64 t36, .int .i64 t36_1, .int .i64 t36_2, .int .i64 t36_3, .float .f64 t36_4]) ∧
        ∃ w_6 : World, ((Instr.storeAt 65 (.pointer ((some ⟨b_t4, 0, none⟩))) (.agg #[.int .i64 t36, .int .i64 t36_1, .int .i64 t36_2, .int .i64 t36_3, .float .f64 t36_4])).run Tryz.prog w_5 = .ok () w_6) ∧
        ∃ t5 : Int, ∃ t5_1 : Int, ∃ t5_2 : Int, ∃ t5_3 : Int, ∃ t5_4 : Nat, (At (fun w' => w' = w_6) ⟨b_t4, 0, none⟩ [.int .i64 t5, .int .i64 t5_1, .int .i64 t5_2, .int .i64 t5_3, .float .f64 t5_4]) ∧
        K (.tuple #[.agg #[.int .i64 t5, .int .i64 t5_1, .int .i64 t5_2, .int .i64 t5_3, .float .f64 t5_4], .bool true]) w_6)
       ((I (IntKind.i64.wrap (t13 + 1)) w_5) ∧ μ (IntKind.i64.wrap (t13 + 1)) w_5 < μ t13 w_2)))
     ((I (IntKind.i64.wrap (t13 + 1)) w_5) ∧ μ (IntKind.i64.wrap (t13 + 1)) w_5 < μ t13 w_2)) w_2))
   (∃ w_7 : World, ((Instr.storeAt 65 (.pointer ((some ⟨b_t4, 0, none⟩))) (.agg #[.int .i64 0, .int .i64 0, .int .i64 0, .int .i64 0, .float .f64 0])).run Tryz.prog w_2 = .ok () w_7) ∧
    ∃ t5_5 : Int, ∃ t5_6 : Int, ∃ t5_7 : Int, ∃ t5_8 : Int, ∃ t5_9 : Nat, (At (fun w' => w' = w_7) ⟨b_t4, 0, none⟩ [.int .i64 t5_5, .int .i64 t5_6, .int .i64 t5_7, .int .i64 t5_8, .float .f64 t5_9]) ∧
    K (.tuple #[.agg #[.int .i64 t5_5, .int .i64 t5_6, .int .i64 t5_7, .int .i64 t5_8, .float .f64 t5_9], .bool false]) w_7)) w
def sk183 : Sk := (.seq .leaf (.seq (.seq .leaf (.block (.loop [13] [(.int .i64)] [5, 7, 13, 14, 15, 16, 17, 18, 19, 20, 21, 22, 23, 24, 25, 26, 27, 28, 29, 30, 31, 32, 33, 34, 35, 36, 37] .leaf))) .leaf))
theorem ok183 : fnOk Tryz.prog Tryz.f183.ntmps Tryz.f183 sk183 = true := by kernel_rfl
theorem eq183 (l0 : Option Addr) (left1 : Sl) (K : Value → World → Prop) (w : World) : fnF Tryz.prog cl Tryz.f183 sk183 [.pointer l0, .slice left1.a left1.len left1.cap] K w = B183 l0 left1 K w := by kernel_rfl
theorem call183 (l0 : Option Addr) (left1 : Sl) (K : Value → World → Prop) (w : World) (h : B183 l0 left1 K w) : Gets Tryz.prog 183 #[.pointer l0, .slice left1.a left1.len left1.cap] w K :=
  calls_of (sk := sk183) cl_ok mixed Tryz.func183 ok183 (args := [.pointer l0, .slice left1.a left1.len left1.cap]) (Nat.le_of_ble_eq_true (by kernel_rfl)) (by rw [eq183]; exact h)
def B230 (s0 : Sl) (f1 : Value) (K : Value → World → Prop) (w : World) : Prop :=
  ∃ (I : Int → World → Prop) (μ : Int → World → Nat), (I 0 w) ∧ ∀ (z : Env) (t8 : Int) (w_1 : World), I t8 w_1 →
  Br (decide (t8 < (↑s0.len : Int)))
   (Rng t8 s0.len (NilP s0.a fun a_t14 =>
    ∃ t15 : Int, ∃ t15_1 : Int, ∃ t15_2 : Int, ∃ t15_3 : Int, ∃ t15_4 : Nat, (At (fun w' => w' = w_1) (Addr.add a_t14 (mulS t8.toNat 5)) [.int .i64 t15, .int .i64 t15_1, .int .i64 t15_2, .int .i64 t15_3, .float .f64 t15_4]) ∧
    CalW Tryz.prog cl f1 [.agg #[.int .i64 t15, .int .i64 t15_1, .int .i64 t15_2, .int .i64 t15_3, .float .f64 t15_4]] w_1 fun e w_2 =>
    ∃ t16 : Bool, (e = .returned (.bool t16)) ∧
    Br t16
     (K (.int .i64 t8) w_2)
     ((I (IntKind.i64.wrap (t8 + 1)) w_2) ∧ μ (IntKind.i64.wrap (t8 + 1)) w_2 < μ t8 w_1)))
   (K (.int .i64 ((-1))) w_1)
def sk230 : Sk := (.seq .leaf (.seq (.seq .leaf (.block (.loop [8] [(.int .i64)] [4, 5, 8, 9, 10, 11, 12, 13, 14, 15, 16, 17, 18] .leaf))) .leaf))
theorem ok230 : fnOk Tryz.prog Tryz.f230.ntmps Tryz.f230 sk230 = true := by kernel_rfl
theorem eq230 (s0 : Sl) (f1 : Value) (K : Value → World → Prop) (w : World) : fnF Tryz.prog cl Tryz.f230 sk230 [.slice s0.a s0.len s0.cap, f1] K w = B230 s0 f1 K w := by kernel_rfl
theorem call230 (s0 : Sl) (f1 : Value) (K : Value → World → Prop) (w : World) (h : B230 s0 f1 K w) : Gets Tryz.prog 230 #[.slice s0.a s0.len s0.cap, f1] w K :=
  calls_of (sk := sk230) cl_ok mixed Tryz.func230 ok230 (args := [.slice s0.a s0.len s0.cap, f1]) (Nat.le_of_ble_eq_true (by kernel_rfl)) (by rw [eq230]; exact h)
def B181 (x0 : Sl) (target1_0 : Int) (target1_1 : Int) (target1_2 : Int) (target1_3 : Int) (target1_4 : Nat) (cmp2 : Value) (K : Value → World → Prop) (w : World) : Prop :=
  New (.cells #[.int .i64 target1_0, .int .i64 target1_1, .int .i64 target1_2, .int .i64 target1_3, .float .f64 target1_4] 181 (0, 0)) (fun b_target4 w_1 =>
  ∃ (I : Int → Int → World → Prop) (μ : Int → Int → World → Nat), (I 0 ((↑x0.len : Int)) w_1) ∧ ∀ (z : Env) (i9 : Int) (j10 : Int) (w_2 : World), I i9 j10 w_2 →
  Br (decide (i9 < j10))
   (Drw w_2 fun S w_3 =>
    Rng (IntKind.i64.wrap (shrI IntKind.u64 (IntKind.u64.wrap (IntKind.i64.wrap (i9 + j10))) 1)) x0.len (NilP x0.a fun a_t27 =>
    ∃ t28 : Int, ∃ t28_1 : Int, ∃ t28_2 : Int, ∃ t28_3 : Int, ∃ t28_4 : Nat, (At S (Addr.add a_t27 (mulS (IntKind.i64.wrap (shrI IntKind.u64 (IntKind.u64.wrap (IntKind.i64.wrap (i9 + j10))) 1)).toNat 5)) [.int .i64 t28, .int .i64 t28_1, .int .i64 t28_2, .int .i64 t28_3, .float .f64 t28_4]) ∧
    ∃ t29 : Int, ∃ t29_1 : Int, ∃ t29_2 : Int, ∃ t29_3 : Int, ∃ t29_4 : Nat, (At S ⟨b_target4, 0, none⟩ [.int .i64 t29, .int .i64 t29_1, .int .i64 t29_2, .int .i64 t29_3, .float .f64 t29_4]) ∧
    CalW Tryz.prog cl cmp2 [.agg #[.int .i64 t28, .int .i64 t28_1, .int .i64 t28_2, .int .i64 t28_3, .float .f64 t28_4], .agg #[.int .i64 t29, .int .i64 t29_1, .int .i64 t29_2, .int .i64 t29_3, .float .f64 t29_4]] w_3 fun e w_4 =>
    ∃ t30 : Int, (e = .returned (.int .i64 t30)) ∧
    Br (decide (t30 < 0))
     ((I (IntKind.i64.wrap (IntKind.i64.wrap (shrI IntKind.u64 (IntKind.u64.wrap (IntKind.i64.wrap (i9 + j10))) 1) + 1)) j10 w_4) ∧ μ (IntKind.i64.wrap (IntKind.i64.wrap (shrI IntKind.u64 (IntKind.u64.wrap (IntKind.i64.wrap (i9 + j10))) 1) + 1)) j10 w_4 < μ i9 j10 w_2)
     ((I i9 (IntKind.i64.wrap (shrI IntKind.u64 (IntKind.u64.wrap (IntKind.i64.wrap (i9 + j10))) 1)) w_4) ∧ μ i9 (IntKind.i64.wrap (shrI IntKind.u64 (IntKind.u64.wrap (IntKind.i64.wrap (i9 + j10))) 1)) w_4 < μ i9 j10 w_2)))
   (Drw w_2 fun S_1 w_5 =>
    Br (decide (i9 < (↑x0.len : Int)))
     (Rng i9 x0.len (NilP x0.a fun a_t43 =>
      ∃ t44 : Int, ∃ t44_1 : Int, ∃ t44_2 : Int, ∃ t44_3 : Int, ∃ t44_4 : Nat, (At S_1 (Addr.add a_t43 (mulS i9.toNat 5)) [.int .i64 t44, .int .i64 t44_1, .int .i64 t44_2, .int .i64 t44_3, .float .f64 t44_4]) ∧
      ∃ t45 : Int, ∃ t45_1 : Int, ∃ t45_2 : Int, ∃ t45_3 : Int, ∃ t45_4 : Nat, (At S_1 ⟨b_target4, 0, none⟩ [.int .i64 t45, .int .i64 t45_1, .int .i64 t45_2, .int .i64 t45_3, .float .f64 t45_4]) ∧
      CalW Tryz.prog cl cmp2 [.agg #[.int .i64 t44, .int .i64 t44_1, .int .i64 t44_2, .int .i64 t44_3, .float .f64 t44_4], .agg #[.int .i64 t45, .int .i64 t45_1, .int .i64 t45_2, .int .i64 t45_3, .float .f64 t45_4]] w_5 fun e_1 w_6 =>
      ∃ t46 : Int, (e_1 = .returned (.int .i64 t46)) ∧
      K (.tuple #[.int .i64 i9, .bool (t46 == 0)]) w_6))
     (K (.tuple #[.int .i64 i9, .bool false]) w_5))) w
def sk181 : Sk := (.seq .leaf (.seq .leaf (.seq .leaf (.seq (.block (.loop [9, 10] [(.int .i64), (.int .i64)] [9, 10, 11, 15, 16, 17, 18, 19, 20, 21, 22, 23, 24, 25, 26, 27, 28, 29, 30, 31, 32, 33, 34] .leaf)) .leaf))))
theorem ok181 : fnOk Tryz.prog Tryz.f181.ntmps Tryz.f181 sk181 = true := by kernel_rfl
theorem eq181 (x0 : Sl) (target1_0 : Int) (target1_1 : Int) (target1_2 : Int) (target1_3 : Int) (target1_4 : Nat) (cmp2 : Value) (K : Value → World → Prop) (w : World) : fnF Tryz.prog cl Tryz.f181 sk181 [.slice x0.a x0.len x0.cap, .agg #[.int .i64 target1_0, .int .i64 target1_1, .int .i64 target1_2, .int .i64 target1_3, .float .f64 target1_4], cmp2] K w = B181 x0 target1_0 target1_1 target1_2 target1_3 target1_4 cmp2 K w := by kernel_rfl
theorem call181 (x0 : Sl) (target1_0 : Int) (target1_1 : Int) (target1_2 : Int) (target1_3 : Int) (target1_4 : Nat) (cmp2 : Value) (K : Value → World → Prop) (w : World) (h : B181 x0 target1_0 target1_1 target1_2 target1_3 target1_4 cmp2 K w) : Gets Tryz.prog 181 #[.slice x0.a x0.len x0.cap, .agg #[.int .i64 target1_0, .int .i64 target1_1, .int .i64 target1_2, .int .i64 target1_3, .float .f64 target1_4], cmp2] w K :=
  calls_of (sk := sk181) cl_ok mixed Tryz.func181 ok181 (args := [.slice x0.a x0.len x0.cap, .agg #[.int .i64 target1_0, .int .i64 target1_1, .int .i64 target1_2, .int .i64 target1_3, .float .f64 target1_4], cmp2]) (Nat.le_of_ble_eq_true (by kernel_rfl)) (by rw [eq181]; exact h)
def B182 (s0 : Sl) (i1 : Int) (v2 : Sl) (K : Value → World → Prop) (w : World) : Prop :=
  ((0 : Int) ≤ i1) ∧
  ((i1 : Int) ≤ (↑s0.len : Int)) ∧
  Br ((↑v2.len : Int) == 0)
   (K (.slice s0.a s0.len s0.cap) w)
   (Br (i1 == (↑s0.len : Int))
     (∃ w_1 : World, ∃ t25 : Sl, ((Builtin.append_ #[177, 177] 177 #[.slice s0.a s0.len s0.cap, .slice v2.a v2.len v2.cap]).run Tryz.prog w = .ok (.slice t25.a t25.len t25.cap) w_1) ∧
      K (.slice t25.a t25.len t25.cap) w_1)
     (Br (decide (IntKind.i64.wrap ((↑s0.len : Int) + (↑v2.len : Int)) > (↑s0.cap : Int)))
       (((0 : Int) ≤ i1) ∧
        ((i1 : Int) ≤ (↑s0.cap : Int)) ∧
        ∃ w_2 : World, ∃ t40 : Sl, ((Builtin.append_ #[177, 3] 177 #[.slice s0.a i1.toNat s0.cap, .int .i64 (IntKind.i64.wrap (IntKind.i64.wrap ((↑s0.len : Int) + (↑v2.len : Int)) - i1))]).run Tryz.prog w = .ok (.slice t40.a t40.len t40.cap) w_2) ∧
        ((0 : Int) ≤ i1) ∧
        ((i1 : Int) ≤ (↑t40.len : Int)) ∧
        ∃ w_3 : World, ∃ t45 : Int, ((Builtin.copy_ #[177, 177] 3 #[.slice (cutA t40.a i1.toNat t40.cap 5) (t40.len - i1.toNat) (t40.cap - i1.toNat), .slice v2.a v2.len v2.cap]).run Tryz.prog w_2 = .ok (.int .i64 t45) w_3) ∧
        Drw w_3 fun S w_4 =>
        ((0 : Int) ≤ IntKind.i64.wrap (i1 + (↑v2.len : Int))) ∧
        ((IntKind.i64.wrap (i1 + (↑v2.len : Int)) : Int) ≤ (↑t40.len : Int)) ∧
        ((0 : Int) ≤ i1) ∧
        ((i1 : Int) ≤ (↑s0.len : Int)) ∧
        ∃ w_5 : World, ∃ t54 : Int, ((Builtin.copy_ #[177, 177] 3 #[.slice (cutA t40.a (IntKind.i64.wrap (i1 + (↑v2.len : Int))).toNat t40.cap 5) (t40.len - (IntKind.i64.wrap (i1 + (↑v2.len : Int))).toNat) (t40.cap - (IntKind.i64.wrap (i1 + (↑v2.len : Int))).toNat), .slice (cutA s0.a i1.toNat s0.cap 5) (s0.len - i1.toNat) (s0.cap - i1.toNat)]).run Tryz.prog w_4 = .ok (.int .i64 t54) w_5) ∧
        K (.slice t40.a t40.len t40.cap) w_5)
       (((0 : Int) ≤ IntKind.i64.wrap ((↑s0.len : Int) + (↑v2.len : Int))) ∧
        ((IntKind.i64.wrap ((↑s0.len : Int) + (↑v2.len : Int)) : Int) ≤ (↑s0.cap : Int)) ∧
        ((0 : Int) ≤ IntKind.i64.wrap (i1 + (↑v2.len : Int))) ∧
        ((IntKind.i64.wrap (i1 + (↑v2.len : Int)) : Int) ≤ (↑(IntKind.i64.wrap ((↑s0.len : Int) + (↑v2.len : Int))).toNat : Int)) ∧
        Ext Tryz.prog 232 #[.slice v2.a v2.len v2.cap, .slice (cutA s0.a (IntKind.i64.wrap (i1 + (↑v2.len : Int))).toNat s0.cap 5) ((IntKind.i64.wrap ((↑s0.len : Int) + (↑v2.len : Int))).toNat - (IntKind.i64.wrap (i1 + (↑v2.len : Int))).toNat) (s0.cap - (IntKind.i64.wrap (i1 + (↑v2.len : Int))).toNat)] w fun e w_6 =>
        ∃ t67 : Bool, (e = .returned (.bool t67)) ∧
        Br (!t67)
         (Drw w_6 fun S_1 w_7 =>
          ((0 : Int) ≤ IntKind.i64.wrap (i1 + (↑v2.len : Int))) ∧
          ((IntKind.i64.wrap (i1 + (↑v2.len : Int)) : Int) ≤ (↑(IntKind.i64.wrap ((↑s0.len : Int) + (↑v2.len : Int))).toNat : Int)) ∧
          ((0 : Int) ≤ i1) ∧
          ((i1 : Int) ≤ (↑(IntKind.i64.wrap ((↑s0.len : Int) + (↑v2.len : Int))).toNat : Int)) ∧
          ∃ w_8 : World, ∃ t77 : Int, ((Builtin.copy_ #[177, 177] 3 #[.slice (cutA s0.a (IntKind.i64.wrap (i1 + (↑v2.len : Int))).toNat s0.cap 5) ((IntKind.i64.wrap ((↑s0.len : Int) + (↑v2.len : Int))).toNat - (IntKind.i64.wrap (i1 + (↑v2.len : Int))).toNat) (s0.cap - (IntKind.i64.wrap (i1 + (↑v2.len : Int))).toNat), .slice (cutA s0.a i1.toNat s0.cap 5) ((IntKind.i64.wrap ((↑s0.len : Int) + (↑v2.len : Int))).toNat - i1.toNat) (s0.cap - i1.toNat)]).run Tryz.prog w_7 = .ok (.int .i64 t77) w_8) ∧
          ((0 : Int) ≤ i1) ∧
          ((i1 : Int) ≤ (↑(IntKind.i64.wrap ((↑s0.len : Int) + (↑v2.len : Int))).toNat : Int)) ∧
          ∃ w_9 : World, ∃ t82 : Int, ((Builtin.copy_ #[177, 177] 3 #[.slice (cutA s0.a i1.toNat s0.cap 5) ((IntKind.i64.wrap ((↑s0.len : Int) + (↑v2.len : Int))).toNat - i1.toNat) (s0.cap - i1.toNat), .slice v2.a v2.len v2.cap]).run Tryz.prog w_8 = .ok (.int .i64 t82) w_9) ∧
          K (.slice s0.a ((IntKind.i64.wrap ((↑s0.len : Int) + (↑v2.len : Int))).toNat) s0.cap) w_9)
         (((0 : Int) ≤ (↑s0.len : Int)) ∧
          (((↑s0.len : Int) : Int) ≤ (↑(IntKind.i64.wrap ((↑s0.len : Int) + (↑v2.len : Int))).toNat : Int)) ∧
          ∃ w_10 : World, ∃ t88 : Int, ((Builtin.copy_ #[177, 177] 3 #[.slice (cutA s0.a (↑s0.len : Int).toNat s0.cap 5) ((IntKind.i64.wrap ((↑s0.len : Int) + (↑v2.len : Int))).toNat - (↑s0.len : Int).toNat) (s0.cap - (↑s0.len : Int).toNat), .slice v2.a v2.len v2.cap]).run Tryz.prog w_6 = .ok (.int .i64 t88) w_10) ∧
          ((0 : Int) ≤ i1) ∧
          ((i1 : Int) ≤ (↑(IntKind.i64.wrap ((↑s0.len : Int) + (↑v2.len : Int))).toNat : Int)) ∧
          Calls Tryz.prog 233 #[.slice (cutA s0.a i1.toNat s0.cap 5) ((IntKind.i64.wrap ((↑s0.len : Int) + (↑v2.len : Int))).toNat - i1.toNat) (s0.cap - i1.toNat), .int .i64 ((↑v2.len : Int))] w_10 fun e_1 w_11 =>
          (e_1 = .returned (.tuple #[])) ∧
          K (.slice s0.a ((IntKind.i64.wrap ((↑s0.len : Int) + (↑v2.len : Int))).toNat) s0.cap) w_11))))
def sk182 : Sk := .leaf
theorem ok182 : fnOk Tryz.prog Tryz.f182.ntmps Tryz.f182 sk182 = true := by kernel_rfl
theorem eq182 (s0 : Sl) (i1 : Int) (v2 : Sl) (K : Value → World → Prop) (w : World) : fnF Tryz.prog cl Tryz.f182 sk182 [.slice s0.a s0.len s0.cap, .int .i64 i1, .slice v2.a v2.len v2.cap] K w = B182 s0 i1 v2 K w := by kernel_rfl
theorem call182 (s0 : Sl) (i1 : Int) (v2 : Sl) (K : Value → World → Prop) (w : World) (h : B182 s0 i1 v2 K w) : Gets Tryz.prog 182 #[.slice s0.a s0.len s0.cap, .int .i64 i1, .slice v2.a v2.len v2.cap] w K :=
  calls_of (sk := sk182) cl_ok mixed Tryz.func182 ok182 (args := [.slice s0.a s0.len s0.cap, .int .i64 i1, .slice v2.a v2.len v2.cap]) (Nat.le_of_ble_eq_true (by kernel_rfl)) (by rw [eq182]; exact h)
def B185 (s0 : Sl) (i1 : Int) (j2 : Int) (K : Value → World → Prop) (w : World) : Prop :=
  ((0 : Int) ≤ (↑s0.len : Int)) ∧
  (((↑s0.len : Int) : Int) ≤ (↑s0.cap : Int)) ∧
  ((0 : Int) ≤ j2) ∧
  ((j2 : Int) ≤ (↑(↑s0.len : Int).toNat : Int)) ∧
  ((0 : Int) ≤ i1) ∧
  ((i1 : Int) ≤ (↑j2.toNat : Int)) ∧
  Br (i1 == j2)
   (K (.slice s0.a s0.len s0.cap) w)
   (Drw w fun S w_1 =>
    ((0 : Int) ≤ i1) ∧
    ((i1 : Int) ≤ (↑s0.cap : Int)) ∧
    ((0 : Int) ≤ j2) ∧
    ((j2 : Int) ≤ (↑s0.len : Int)) ∧
    ∃ w_2 : World, ∃ t26 : Sl, ((Builtin.append_ #[177, 177] 177 #[.slice s0.a i1.toNat s0.cap, .slice (cutA s0.a j2.toNat s0.cap 5) (s0.len - j2.toNat) (s0.cap - j2.toNat)]).run Tryz.prog w_1 = .ok (.slice t26.a t26.len t26.cap) w_2) ∧
    ((0 : Int) ≤ (↑s0.len : Int)) ∧
    (((↑s0.len : Int) : Int) ≤ (↑t26.cap : Int)) ∧
    ((0 : Int) ≤ (↑t26.len : Int)) ∧
    (((↑t26.len : Int) : Int) ≤ (↑(↑s0.len : Int).toNat : Int)) ∧
    ∃ w_3 : World, ((Builtin.clear_ #[177] 0 #[.slice (cutA t26.a (↑t26.len : Int).toNat t26.cap 5) ((↑s0.len : Int).toNat - (↑t26.len : Int).toNat) (t26.cap - (↑t26.len : Int).toNat)]).run Tryz.prog w_2 = .ok (.tuple #[]) w_3) ∧
    K (.slice t26.a t26.len t26.cap) w_3)
def sk185 : Sk := .leaf
theorem ok185 : fnOk Tryz.prog Tryz.f185.ntmps Tryz.f185 sk185 = true := by kernel_rfl
theorem eq185 (s0 : Sl) (i1 : Int) (j2 : Int) (K : Value → World → Prop) (w : World) : fnF Tryz.prog cl Tryz.f185 sk185 [.slice s0.a s0.len s0.cap, .int .i64 i1, .int .i64 j2] K w = B185 s0 i1 j2 K w := by kernel_rfl
theorem call185 (s0 : Sl) (i1 : Int) (j2 : Int) (K : Value → World → Prop) (w : World) (h : B185 s0 i1 j2 K w) : Gets Tryz.prog 185 #[.slice s0.a s0.len s0.cap, .int .i64 i1, .int .i64 j2] w K :=
  calls_of (sk := sk185) cl_ok mixed Tryz.func185 ok185 (args := [.slice s0.a s0.len s0.cap, .int .i64 i1, .int .i64 j2]) (Nat.le_of_ble_eq_true (by kernel_rfl)) (by rw [eq185]; exact h)
def B191  (K : Value → World → Prop) (w : World) : Prop :=
  New (.cells #[.int .i64 0] 3 (0, 0)) (fun b_sum1 w_1 =>
  New (.cells #[.int .i64 0] 3 (0, 0)) (fun b_weight2 w_2 =>
  ∃ w_3 : World, ((Instr.storeAt 3 (.pointer ((some ⟨b_sum1, 0, none⟩))) (.int .i64 0)).run Tryz.prog w_2 = .ok () w_3) ∧
  ∃ w_4 : World, ((Instr.storeAt 3 (.pointer ((some ⟨b_weight2, 0, none⟩))) (.int .i64 2)).run Tryz.prog w_3 = .ok () w_4) ∧
  K (.func (.func 241) #[] #[.pointer ((some ⟨b_sum1, 0, none⟩)), .pointer ((some ⟨b_weight2, 0, none⟩))]) w_4) w_1) w
def sk191 : Sk := .leaf
theorem ok191 : fnOk Tryz.prog Tryz.f191.ntmps Tryz.f191 sk191 = true := by kernel_rfl
theorem eq191  (K : Value → World → Prop) (w : World) : fnF Tryz.prog cl Tryz.f191 sk191 [] K w = B191  K w := by kernel_rfl
theorem call191  (K : Value → World → Prop) (w : World) (h : B191  K w) : Gets Tryz.prog 191 #[] w K :=
  calls_of (sk := sk191) cl_ok mixed Tryz.func191 ok191 (args := []) (Nat.le_of_ble_eq_true (by kernel_rfl)) (by rw [eq191]; exact h)
def B241 (worth0 : Int) (c1 : Option Addr) (c2 : Option Addr) (K : Value → World → Prop) (w : World) : Prop :=
  NilP c1 fun a_t5 =>
  ∃ t5 : Int, (At (fun w' => w' = w) a_t5 [.int .i64 t5]) ∧
  NilP c2 fun a_t6 =>
  ∃ t6 : Int, (At (fun w' => w' = w) a_t6 [.int .i64 t6]) ∧
  ∃ w_1 : World, ((Instr.storeAt 3 (.pointer c1) (.int .i64 ((IntKind.i64.wrap (t5 + IntKind.i64.wrap (t6 * worth0))).tmod 31))).run Tryz.prog w = .ok () w_1) ∧
  NilP c2 fun a_t11 =>
  ∃ t11 : Int, (At (fun w' => w' = w_1) a_t11 [.int .i64 t11]) ∧
  ∃ w_2 : World, ((Instr.storeAt 3 (.pointer c2) (.int .i64 (IntKind.i64.wrap (t11 + 1)))).run Tryz.prog w_1 = .ok () w_2) ∧
  NilP c1 fun a_t13 =>
  ∃ t13 : Int, (At (fun w' => w' = w_2) a_t13 [.int .i64 t13]) ∧
  K (.int .i64 t13) w_2
def sk241 : Sk := .leaf
theorem ok241 : fnOk Tryz.prog Tryz.f241.ntmps Tryz.f241 sk241 = true := by kernel_rfl
theorem eq241 (worth0 : Int) (c1 : Option Addr) (c2 : Option Addr) (K : Value → World → Prop) (w : World) : fnF Tryz.prog cl Tryz.f241 sk241 [.int .i64 worth0, .pointer c1, .pointer c2] K w = B241 worth0 c1 c2 K w := by kernel_rfl
theorem call241 (worth0 : Int) (c1 : Option Addr) (c2 : Option Addr) (K : Value → World → Prop) (w : World) (h : B241 worth0 c1 c2 K w) : Gets Tryz.prog 241 #[.int .i64 worth0, .pointer c1, .pointer c2] w K :=
  calls_of (sk := sk241) cl_ok mixed Tryz.func241 ok241 (args := [.int .i64 worth0, .pointer c1, .pointer c2]) (Nat.le_of_ble_eq_true (by kernel_rfl)) (by rw [eq241]; exact h)
def B129 (n0 : Int) (K : Value → World → Prop) (w : World) : Prop :=
  ∃ (J : World → Prop), (Br (decide (n0 < 0))
     (K (.tuple #[.string (ByteArray.mk #[]), .int .i64 1]) w)
     (Br (decide (n0 ≥ 28629151))
       (K (.tuple #[.string (ByteArray.mk #[]), .int .i64 1]) w)
       (J  w))) ∧
  ∀ (z : Env)  (w_1 : World), J  w_1 →
  New (.cells #[.int .u8 0, .int .u8 0, .int .u8 0, .int .u8 0, .int .u8 0, .int .u8 0] 234 (0, 0)) (fun b_out4 w_2 =>
  New (.cells #[.int .i64 0, .int .i64 0, .int .i64 0, .int .i64 0, .int .i64 0] 235 (0, 0)) (fun b_worths5 w_3 =>
  ∃ (I : Int → Int → World → Prop) (μ : Int → Int → World → Nat), (I n0 4 w_3) ∧ ∀ (z_1 : Env) (n0_1 : Int) (i6 : Int) (w_4 : World), I n0_1 i6 w_4 →
  Br (decide (i6 ≥ 0))
   (Rng i6 5 (∃ w_5 : World, ((Instr.storeAt 3 (.pointer ((some (Addr.add ⟨b_worths5, 0, none⟩ i6.toNat)))) (.int .i64 (n0_1.tmod 31))).run Tryz.prog w_4 = .ok () w_5) ∧
    (I (IntKind.i64.wrap (n0_1.tdiv 31)) (IntKind.i64.wrap (i6 - 1)) w_5) ∧ μ (IntKind.i64.wrap (n0_1.tdiv 31)) (IntKind.i64.wrap (i6 - 1)) w_5 < μ n0_1 i6 w_4))
   (Calls Tryz.prog 191 #[] w_4 fun e w_6 =>
    ∃ t27 : Value, (e = .returned (t27)) ∧
    ∃ t28 : List Value, (t28.length = 5) ∧
    (At (fun w' => w' = w_6) ⟨b_worths5, 0, none⟩ t28) ∧
    ∃ (I_1 : Int → Int → World → Prop) (μ_1 : Int → Int → World → Nat), (I_1 0 0 w_6) ∧ ∀ (z_2 : Env) (sum8 : Int) (t29 : Int) (w_7 : World), I_1 sum8 t29 w_7 →
    Br (decide (t29 < 5))
     (Rng t29 5 (∃ t32 : Int, (t28.toArray[t29.toNat]? = some (Value.int IntKind.i64 t32)) ∧
      ∃ t35 : UInt8, ((0 : Int) ≤ t32) ∧
      ((ByteArray.mk #[65, 66, 67, 68, 69, 70, 71, 72, 74, 75, 76, 77, 78, 80, 81, 82, 84, 85, 86, 87, 88, 89, 90, 50, 51, 52, 53, 54, 55, 56, 57])[t32.toNat]? = some t35) ∧
      Rng t29 6 (∃ w_8 : World, ((Instr.storeAt 5 (.pointer ((some (Addr.add ⟨b_out4, 0, none⟩ t29.toNat)))) (.int .u8 ((↑t35.toNat : Int)))).run Tryz.prog w_7 = .ok () w_8) ∧
      CalW Tryz.prog cl t27 [.int .i64 t32] w_8 fun e_1 w_9 =>
      ∃ t39 : Int, (e_1 = .returned (.int .i64 t39)) ∧
      (I_1 t39 (IntKind.i64.wrap (t29 + 1)) w_9) ∧ μ_1 t39 (IntKind.i64.wrap (t29 + 1)) w_9 < μ_1 sum8 t29 w_7)))
     (∃ t44 : UInt8, ((0 : Int) ≤ (IntKind.i64.wrap (31 - sum8)).tmod 31) ∧
      ((ByteArray.mk #[65, 66, 67, 68, 69, 70, 71, 72, 74, 75, 76, 77, 78, 80, 81, 82, 84, 85, 86, 87, 88, 89, 90, 50, 51, 52, 53, 54, 55, 56, 57])[((IntKind.i64.wrap (31 - sum8)).tmod 31).toNat]? = some t44) ∧
      ∃ w_10 : World, ((Instr.storeAt 5 (.pointer ((some (Addr.add ⟨b_out4, 0, none⟩ 5)))) (.int .u8 ((↑t44.toNat : Int)))).run Tryz.prog w_7 = .ok () w_10) ∧
      ∃ t46 : Addr, (some (Addr.mk b_out4 0 none) = some t46) ∧
      ∃ t47 : ByteArray, (∀ w', (fun w' => w' = w_10) w' → ((convert 42 9 (.slice ((some (t46))) 6 6))).run Tryz.prog w' = .ok (.string t47) w') ∧
      K (.tuple #[.string t47, .int .i64 0]) w_10))) w_2) w_1
def sk129 : Sk := (.seq .leaf (.cut [] [] [2, 3, 11, 12, 13, 14, 15, 16] .leaf (.seq .leaf (.seq .leaf (.seq (.seq .leaf (.block (.loop [0, 6] [(.int .i64), (.int .i64)] [0, 6, 17, 18, 19, 20, 21, 22, 23, 24, 25, 26] .leaf))) (.seq .leaf (.seq (.seq .leaf (.block (.loop [8, 29] [(.int .i64), (.int .i64)] [8, 9, 10, 29, 30, 31, 32, 33, 34, 35, 36, 37, 38, 39, 40] .leaf))) .leaf)))))))
theorem ok129 : fnOk Tryz.prog Tryz.f129.ntmps Tryz.f129 sk129 = true := by kernel_rfl
theorem eq129 (n0 : Int) (K : Value → World → Prop) (w : World) : fnF Tryz.prog cl Tryz.f129 sk129 [.int .i64 n0] K w = B129 n0 K w := by kernel_rfl
theorem call129 (n0 : Int) (K : Value → World → Prop) (w : World) (h : B129 n0 K w) : Gets Tryz.prog 129 #[.int .i64 n0] w K :=
  calls_of (sk := sk129) cl_ok mixed Tryz.func129 ok129 (args := [.int .i64 n0]) (Nat.le_of_ble_eq_true (by kernel_rfl)) (by rw [eq129]; exact h)
def B119 (s0 : ByteArray) (K : Value → World → Prop) (w : World) : Prop :=
  Br ((↑s0.size : Int) != 6)
   (K (.tuple #[.int .i64 0, .int .i64 6]) w)
   (Calls Tryz.prog 191 #[] w fun e w_1 =>
    ∃ t13 : Value, (e = .returned (t13)) ∧
    New (.stringIter s0 0) (fun b_t15 w_2 =>
    ∃ (I : Int → Int → World → Prop) (μ : Int → Int → World → Nat), (I 0 0 w_2) ∧ ∀ (z : Env) (n5 : Int) (sum6 : Int) (w_3 : World), I n5 sum6 w_3 →
    NextS ((some ⟨b_t15, 0, none⟩)) (fun i c w_4 =>
      Calls Tryz.prog 192 #[.string (ByteArray.mk #[65, 66, 67, 68, 69, 70, 71, 72, 74, 75, 76, 77, 78, 80, 81, 82, 84, 85, 86, 87, 88, 89, 90, 50, 51, 52, 53, 54, 55, 56, 57]), .int .u8 (IntKind.u8.wrap c)] w_4 fun e_1 w_5 =>
      ∃ t22 : Int, (e_1 = .returned (.int .i64 t22)) ∧
      ∃ (J : Bool → World → Prop), (Br (decide (t22 < 0))
         (J true w_5)
         (J (decide (c > 90)) w_5)) ∧
      ∀ (z_1 : Env) (t23 : Bool) (w_6 : World), J t23 w_6 →
      Br t23
       (K (.tuple #[.int .i64 0, .int .i64 6]) w_6)
       (Br (decide (i < 5))
         (CalW Tryz.prog cl t13 [.int .i64 t22] w_6 fun e_2 w_7 =>
          ∃ t39 : Int, (e_2 = .returned (.int .i64 t39)) ∧
          (I (IntKind.i64.wrap (IntKind.i64.wrap (n5 * 31) + t22)) t39 w_7) ∧ μ (IntKind.i64.wrap (IntKind.i64.wrap (n5 * 31) + t22)) t39 w_7 < μ n5 sum6 w_3)
         (Br ((IntKind.i64.wrap (sum6 + t22)).tmod 31 != 0)
           (K (.tuple #[.int .i64 0, .int .i64 6]) w_6)
           ((I n5 sum6 w_6) ∧ μ n5 sum6 w_6 < μ n5 sum6 w_3))))
     (fun w_8 =>
      K (.tuple #[.int .i64 n5, .int .i64 0]) w_8) w_3) w_1)
def sk119 : Sk := (.seq .leaf (.seq .leaf (.seq .leaf (.seq (.seq .leaf (.block (.loop [5, 6] [(.int .i64), (.int .i64)] [2, 3, 5, 6, 7, 8, 9, 16, 17, 18, 19, 20, 21, 22, 23, 24, 25, 26, 27, 28, 29, 30, 31, 32, 33, 34, 35, 36, 37, 38, 39, 40, 41, 42, 43, 44, 45] (.seq .leaf (.seq .leaf (.block (.seq .leaf (.seq .leaf (.block (.cut [23] [.bool] [23, 24, 25, 26, 27, 28, 29] .leaf .leaf)))))))))) .leaf))))
theorem ok119 : fnOk Tryz.prog Tryz.f119.ntmps Tryz.f119 sk119 = true := by kernel_rfl
theorem eq119 (s0 : ByteArray) (K : Value → World → Prop) (w : World) : fnF Tryz.prog cl Tryz.f119 sk119 [.string s0] K w = B119 s0 K w := by kernel_rfl
theorem call119 (s0 : ByteArray) (K : Value → World → Prop) (w : World) (h : B119 s0 K w) : Gets Tryz.prog 119 #[.string s0] w K :=
  calls_of (sk := sk119) cl_ok mixed Tryz.func119 ok119 (args := [.string s0]) (Nat.le_of_ble_eq_true (by kernel_rfl)) (by rw [eq119]; exact h)
def B192 (s0 : ByteArray) (c1 : Int) (K : Value → World → Prop) (w : World) : Prop :=
  Calls Tryz.prog 242 #[.string s0, .int .u8 c1] w fun e w_1 =>
  ∃ t7 : Int, (e = .returned (.int .i64 t7)) ∧
  K (.int .i64 t7) w_1
def sk192 : Sk := .leaf
theorem ok192 : fnOk Tryz.prog Tryz.f192.ntmps Tryz.f192 sk192 = true := by kernel_rfl
theorem eq192 (s0 : ByteArray) (c1 : Int) (K : Value → World → Prop) (w : World) : fnF Tryz.prog cl Tryz.f192 sk192 [.string s0, .int .u8 c1] K w = B192 s0 c1 K w := by kernel_rfl
theorem call192 (s0 : ByteArray) (c1 : Int) (K : Value → World → Prop) (w : World) (h : B192 s0 c1 K w) : Gets Tryz.prog 192 #[.string s0, .int .u8 c1] w K :=
  calls_of (sk := sk192) cl_ok mixed Tryz.func192 ok192 (args := [.string s0, .int .u8 c1]) (Nat.le_of_ble_eq_true (by kernel_rfl)) (by rw [eq192]; exact h)
def B242 (s0 : ByteArray) (c1 : Int) (K : Value → World → Prop) (w : World) : Prop :=
  Ext Tryz.prog 267 #[.string s0, .int .u8 c1] w fun e w_1 =>
  ∃ t7 : Int, (e = .returned (.int .i64 t7)) ∧
  K (.int .i64 t7) w_1
def sk242 : Sk := .leaf
theorem ok242 : fnOk Tryz.prog Tryz.f242.ntmps Tryz.f242 sk242 = true := by kernel_rfl
theorem eq242 (s0 : ByteArray) (c1 : Int) (K : Value → World → Prop) (w : World) : fnF Tryz.prog cl Tryz.f242 sk242 [.string s0, .int .u8 c1] K w = B242 s0 c1 K w := by kernel_rfl
theorem call242 (s0 : ByteArray) (c1 : Int) (K : Value → World → Prop) (w : World) (h : B242 s0 c1 K w) : Gets Tryz.prog 242 #[.string s0, .int .u8 c1] w K :=
  calls_of (sk := sk242) cl_ok mixed Tryz.func242 ok242 (args := [.string s0, .int .u8 c1]) (Nat.le_of_ble_eq_true (by kernel_rfl)) (by rw [eq242]; exact h)
end Go.Proofs.YtfgbbckfikiomaaGreatDoor
