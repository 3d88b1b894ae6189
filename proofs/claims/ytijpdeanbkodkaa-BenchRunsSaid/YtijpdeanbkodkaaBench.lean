/-
  The contracts of package bench: what each function answers, and what becomes of its seats.
-/
import Derived.Test.YtijpdeanbkodkaaRows
import Derived.Test.YtijpdeanbkodkaaLatch
namespace Go.Proofs.Ytijpdeanbkodkaa
open Go.RowKit
set_option maxRecDepth 100000

theorem el113 : Elem Try.prog 113 117 [.int .i64 0, .bool false] 16 := Elem.of (z := .agg #[.int .i64 0, .bool false]) Try.underlying113 (by kernel_rfl) rfl (by decide)

/-- A seat's cells: its status, and whether it has a token. -/
def seatC (x : Int × Bool) : List Value := [.int .i64 x.1, .bool x.2]
def seats (xs : List (Int × Bool)) : List Value := xs.flatMap seatC
theorem seatC_len (x : Int × Bool) : (seatC x).length = 2 := rfl

/-- Seats at block p: they stand in block q. -/
structure IsBench (w : World) (p q : Nat) (xs : List (Int × Bool)) : Prop where
  head : Blk w p 115 [.slice (some ⟨q, 0, none⟩) xs.length xs.length]
  row : Blk w q 117 (seats xs)
  le : xs.length ≤ 4096

theorem IsBench.kp {w w' : World} {p q : Nat} {xs : List (Int × Bool)} {S : Nat → Prop} (h : IsBench w p q xs) (hk : Kp S w w') (hp : ¬ S p) (hq : ¬ S q) : IsBench w' p q xs :=
  ⟨hk.blk h.head hp, hk.blk h.row hq, h.le⟩
theorem IsBench.kpN {w w' : World} {p q : Nat} {xs : List (Int × Bool)} (h : IsBench w p q xs) (hk : Kp No w w') : IsBench w' p q xs := h.kp hk id id

/-- Who sits there. -/
def seat? (xs : List (Int × Bool)) (g : Int) : Option (Int × Bool) := if 0 ≤ g then xs[g.toNat]? else none
theorem seat?_some {xs : List (Int × Bool)} {g : Int} {x : Int × Bool} (h : seat? xs g = some x) : 0 ≤ g ∧ g < xs.length ∧ xs[g.toNat]? = some x := by
  unfold seat? at h
  split at h
  · exact ⟨by assumption, by have := (List.getElem?_eq_some_iff.1 h).1; omega, h⟩
  · cases h
theorem seat?_none {xs : List (Int × Bool)} {g : Int} (h : seat? xs g = none) : g < 0 ∨ (xs.length : Int) ≤ g := by
  unfold seat? at h
  split at h
  · have := List.getElem?_eq_none_iff.1 h; omega
  · omega

theorem IsBench.status {w : World} {p q : Nat} {xs : List (Int × Bool)} (h : IsBench w p q xs) {k : Nat} {x : Int × Bool} (hx : xs[k]? = some x) : w.cell? ⟨q, k * 2, none⟩ = some (.int .i64 x.1) := by
  have := h.row.cell (i := k * 2 + 0) (v := .int .i64 x.1) (by unfold seats; rw [recs_get seatC_len hx (by decide)]; rfl)
  simpa using this
theorem IsBench.token {w : World} {p q : Nat} {xs : List (Int × Bool)} (h : IsBench w p q xs) {k : Nat} {x : Int × Bool} (hx : xs[k]? = some x) : w.cell? ⟨q, k * 2 + 1, none⟩ = some (.bool x.2) :=
  h.row.cell (by unfold seats; rw [recs_get seatC_len hx (by decide)]; rfl)
theorem IsBench.setC {w : World} {p q : Nat} {xs : List (Int × Bool)} (h : IsBench w p q xs) {k : Nat} {x x' : Int × Bool} (hx : xs[k]? = some x) {j : Nat} (hj : j < 2) {v : Value} (hv : seatC x' = (seatC x).set j v) : IsBench (w.setCell ⟨q, k * 2 + j, none⟩ v) p q (xs.set k x') := by
  refine ⟨?_, ?_, by simpa using h.le⟩
  · rw [List.length_set]
    exact (Kp.setCell (S := (· = q)) w ⟨q, k * 2 + j, none⟩ v (fun _ => rfl)).blk h.head (h.head.ne h.row (by decide))
  · have := h.row.set (k * 2 + j) v
    unfold seats at this ⊢
    rwa [recs_set seatC_len hx hj hv] at this
theorem IsBench.setStatus {w : World} {p q : Nat} {xs : List (Int × Bool)} (h : IsBench w p q xs) {k : Nat} {x : Int × Bool} (hx : xs[k]? = some x) (s : Int) : IsBench (w.setCell ⟨q, k * 2, none⟩ (.int .i64 s)) p q (xs.set k (s, x.2)) :=
  h.setC (x' := (s, x.2)) hx (j := 0) (by decide) rfl
theorem IsBench.setToken {w : World} {p q : Nat} {xs : List (Int × Bool)} (h : IsBench w p q xs) {k : Nat} {x : Int × Bool} (hx : xs[k]? = some x) (t : Bool) : IsBench (w.setCell ⟨q, k * 2 + 1, none⟩ (.bool t)) p q (xs.set k (x.1, t)) :=
  h.setC (x' := (x.1, t)) hx (j := 1) (by decide) rfl

def hasB (xs : List (Int × Bool)) (g : Int) : Bool := (seat? xs g).isSome
theorem hasB_true {xs : List (Int × Bool)} {g : Int} (h0 : 0 ≤ g) (h1 : g < xs.length) : hasB xs g = true := by
  unfold hasB seat?
  rw [if_pos h0, List.getElem?_eq_getElem (by omega)]; rfl
theorem hasB_false {xs : List (Int × Bool)} {g : Int} (h : g < 0 ∨ (xs.length : Int) ≤ g) : hasB xs g = false := by
  unfold hasB seat?
  split
  · rw [List.getElem?_eq_none (by omega)]; rfl
  · rfl

set_option maxHeartbeats 400000 in
theorem has_any (p q : Nat) (xs : List (Int × Bool)) (g : Int) (b : Bool) (hb : hasB xs g = b) (w : World) (h : IsBench w p q xs) :
    Calls Try.prog 84 #[.pointer (some ⟨p, 0, none⟩), .int .i64 g] w fun e w' => e = .returned (.bool b) ∧ w' = w := by
  subst hb
  have c0 := h.head.cell (i := 0) rfl
  have hle := h.le
  clear h
  by_cases h0 : 0 ≤ g
  · by_cases h1 : g < xs.length
    · rw [hasB_true h0 h1]
      go_enter Try.func84, Try.ntmps84
      go_wp2
      go_ret
      exact ⟨by simp, rfl⟩
    · rw [hasB_false (by omega)]
      go_enter Try.func84, Try.ntmps84
      go_wp2
      go_ret
      exact ⟨by simp, rfl⟩
  · rw [hasB_false (by omega)]
    go_enter Try.func84, Try.ntmps84
    go_wp2
    go_ret
    exact ⟨by simp, rfl⟩

/-- Has one that status? -/
def isB (xs : List (Int × Bool)) (g s : Int) : Bool := match seat? xs g with | some x => x.1 == s | none => false

set_option maxHeartbeats 400000 in
theorem is_any (p q : Nat) (xs : List (Int × Bool)) (g s : Int) (b : Bool) (hb : isB xs g s = b) (w : World) (h : IsBench w p q xs) :
    Calls Try.prog 83 #[.pointer (some ⟨p, 0, none⟩), .int .i64 g, .int .i64 s] w fun e w' => e = .returned (.bool b) ∧ w' = w := by
  have c0 := h.head.cell (i := 0) rfl
  have hle := h.le
  have H := hid h
  cases hx : seat? xs g with
  | none =>
    have hh : hasB xs g = false := by unfold hasB; rw [hx]; rfl
    have e : b = false := by rw [← hb]; unfold isB; rw [hx]
    subst e
    have HH := hid hh
    clear h hx hh hb
    go_enter Try.func83, Try.ntmps83
    go_wp2_with (go_at_call 84; refine (has_any p q xs g false HH.out _ H.out).mono ?_; rintro e w' ⟨rfl, hw'⟩; obtain rfl := hw')
    go_ret
    exact ⟨rfl, rfl⟩
  | some x =>
    have hh : hasB xs g = true := by unfold hasB; rw [hx]; rfl
    have e : b = (x.1 == s) := by rw [← hb]; unfold isB; rw [hx]
    subst e
    obtain ⟨h0, h1, hk⟩ := seat?_some hx
    have hc := h.status hk
    have HH := hid hh
    generalize x.1 = st at *
    clear h hx hh hb hk
    go_enter Try.func83, Try.ntmps83
    go_wp2_with (go_at_call 84; refine (has_any p q xs g true HH.out _ H.out).mono ?_; rintro e w' ⟨rfl, hw'⟩; obtain rfl := hw')
    go_ret
    exact ⟨by simp, rfl⟩

/-- What one does; whether it has a token. -/
def statusX (xs : List (Int × Bool)) (g : Int) : Int := match seat? xs g with | some x => x.1 | none => 2
def tokenX (xs : List (Int × Bool)) (g : Int) : Bool := match seat? xs g with | some x => x.2 | none => false

set_option maxHeartbeats 400000 in
theorem status_any (p q : Nat) (xs : List (Int × Bool)) (g : Int) (s : Int) (hs : statusX xs g = s) (w : World) (h : IsBench w p q xs) :
    Calls Try.prog 42 #[.pointer (some ⟨p, 0, none⟩), .int .i64 g] w fun e w' => e = .returned (.int .i64 s) ∧ w' = w := by
  have c0 := h.head.cell (i := 0) rfl
  have hle := h.le
  have H := hid h
  cases hx : seat? xs g with
  | none =>
    have hh : hasB xs g = false := by unfold hasB; rw [hx]; rfl
    have e : s = 2 := by rw [← hs]; unfold statusX; rw [hx]
    subst e
    have HH := hid hh
    clear h hx hh hs
    go_enter Try.func42, Try.ntmps42
    go_wp2_with (go_at_call 84; refine (has_any p q xs g false HH.out _ H.out).mono ?_; rintro e w' ⟨rfl, hw'⟩; obtain rfl := hw')
    go_ret
    exact ⟨rfl, rfl⟩
  | some x =>
    have hh : hasB xs g = true := by unfold hasB; rw [hx]; rfl
    have e : s = x.1 := by rw [← hs]; unfold statusX; rw [hx]
    subst e
    obtain ⟨h0, h1, hk⟩ := seat?_some hx
    have hc := h.status hk
    have HH := hid hh
    generalize x.1 = st at *
    clear h hx hh hs hk
    go_enter Try.func42, Try.ntmps42
    go_wp2_with (go_at_call 84; refine (has_any p q xs g true HH.out _ H.out).mono ?_; rintro e w' ⟨rfl, hw'⟩; obtain rfl := hw')
    go_ret
    exact ⟨rfl, rfl⟩

set_option maxHeartbeats 400000 in
theorem token_any (p q : Nat) (xs : List (Int × Bool)) (g : Int) (b : Bool) (hs : tokenX xs g = b) (w : World) (h : IsBench w p q xs) :
    Calls Try.prog 43 #[.pointer (some ⟨p, 0, none⟩), .int .i64 g] w fun e w' => e = .returned (.bool b) ∧ w' = w := by
  have c0 := h.head.cell (i := 0) rfl
  have hle := h.le
  have H := hid h
  cases hx : seat? xs g with
  | none =>
    have hh : hasB xs g = false := by unfold hasB; rw [hx]; rfl
    have e : b = false := by rw [← hs]; unfold tokenX; rw [hx]
    subst e
    have HH := hid hh
    clear h hx hh hs
    go_enter Try.func43, Try.ntmps43
    go_wp2_with (go_at_call 84; refine (has_any p q xs g false HH.out _ H.out).mono ?_; rintro e w' ⟨rfl, hw'⟩; obtain rfl := hw')
    go_ret
    exact ⟨rfl, rfl⟩
  | some x =>
    have hh : hasB xs g = true := by unfold hasB; rw [hx]; rfl
    have e : b = x.2 := by rw [← hs]; unfold tokenX; rw [hx]
    subst e
    obtain ⟨h0, h1, hk⟩ := seat?_some hx
    have hc := h.token hk
    have HH := hid hh
    generalize x.2 = st at *
    clear h hx hh hs hk
    go_enter Try.func43, Try.ntmps43
    go_wp2_with (go_at_call 84; refine (has_any p q xs g true HH.out _ H.out).mono ?_; rintro e w' ⟨rfl, hw'⟩; obtain rfl := hw')
    go_ret
    exact ⟨by simp, rfl⟩

theorem len_bench (p q : Nat) (xs : List (Int × Bool)) (w : World) (h : IsBench w p q xs) :
    Calls Try.prog 56 #[.pointer (some ⟨p, 0, none⟩)] w fun e w' => e = .returned (.int .i64 xs.length) ∧ w' = w := by
  have c0 := h.head.cell (i := 0) rfl
  clear h
  go_enter Try.func56, Try.ntmps56
  go_wp2
  go_ret
  exact ⟨rfl, rfl⟩

/-- What is answered, and the seats behind it. -/
def parkR (xs : List (Int × Bool)) (g : Int) : List (Int × Bool) × Bool :=
  match seat? xs g with
  | some x => if x.1 = 0 then (if x.2 then (xs.set g.toNat (0, false), false) else (xs.set g.toNat (1, false), true)) else (xs, false)
  | none => (xs, false)
def readyR (xs : List (Int × Bool)) (g : Int) : List (Int × Bool) × Bool :=
  match seat? xs g with
  | some x => if x.1 = 1 then (xs.set g.toNat (0, x.2), true) else if x.1 = 0 ∧ x.2 = false then (xs.set g.toNat (0, true), true) else (xs, false)
  | none => (xs, false)
def endR (xs : List (Int × Bool)) (g : Int) : List (Int × Bool) × Bool :=
  match seat? xs g with
  | some x => if x.1 = 0 then (xs.set g.toNat (2, false), true) else (xs, false)
  | none => (xs, false)
def setR (xs : List (Int × Bool)) (g s : Int) (t : Bool) : List (Int × Bool) × Bool :=
  match seat? xs g with
  | some _ => if 0 ≤ s ∧ s ≤ 2 then (xs.set g.toNat (s, t), true) else (xs, false)
  | none => (xs, false)

set_option maxHeartbeats 400000 in
theorem park_any (p q : Nat) (xs : List (Int × Bool)) (g : Int) (ys : List (Int × Bool)) (b : Bool) (hr : parkR xs g = (ys, b)) (w : World) (h : IsBench w p q xs) :
    Calls Try.prog 39 #[.pointer (some ⟨p, 0, none⟩), .int .i64 g] w fun e w' => e = .returned (.bool b) ∧ IsBench w' p q ys ∧ Kp (· = q) w w' := by
  have c0 := h.head.cell (i := 0) rfl
  have hle := h.le
  have H := hid h
  cases hb : isB xs g 0 with
  | false =>
    have e : (ys, b) = (xs, false) := by
      rw [← hr]; unfold parkR; unfold isB at hb
      split
      · rename_i x hx; rw [hx] at hb; simp only [beq_eq_false_iff_ne] at hb; rw [if_neg hb]
      · rfl
    cases e
    have HB := hid hb
    clear h hb hr
    go_enter Try.func39, Try.ntmps39
    go_wp2_with (go_at_call 83; refine (is_any p q xs g 0 false HB.out _ H.out).mono ?_; rintro e w' ⟨rfl, hw'⟩; obtain rfl := hw')
    go_ret
    exact ⟨rfl, H.out, Kp.refl _ _⟩
  | true =>
    obtain ⟨x, hx, h0⟩ : ∃ x, seat? xs g = some x ∧ x.1 = 0 := by
      unfold isB at hb
      split at hb
      · rename_i x hx; exact ⟨x, hx, by simpa using hb⟩
      · cases hb
    obtain ⟨hg0, hg1, hk⟩ := seat?_some hx
    have hct := h.token hk
    have hf0 := h.row.frozen (g.toNat * 2)
    have hf1 := h.row.frozen (g.toNat * 2 + 1)
    have hcs := h.status hk
    have HB := hid hb
    have HK := hid hk
    have H0 := hid h0
    cases ht : x.2 with
    | true =>
      have e : (ys, b) = (xs.set g.toNat (0, false), false) := by rw [← hr]; unfold parkR; rw [hx]; simp [h0, ht]
      cases e
      rw [ht] at hct
      clear h hb hr hx hk h0 hcs ht
      go_enter Try.func39, Try.ntmps39
      go_wp2_with (go_at_call 83; refine (is_any p q xs g 0 true HB.out _ H.out).mono ?_; rintro e w' ⟨rfl, hw'⟩; obtain rfl := hw')
      go_ret
      have := H.out.setToken HK.out false
      rw [H0.out] at this
      exact ⟨rfl, this, Kp.setCell _ _ _ (fun _ => rfl)⟩
    | false =>
      have e : (ys, b) = (xs.set g.toNat (1, false), true) := by rw [← hr]; unfold parkR; rw [hx]; simp [h0, ht]
      cases e
      rw [ht] at hct
      have HT := hid ht
      clear h hb hr hx hk h0 ht
      go_enter Try.func39, Try.ntmps39
      go_wp2_with (go_at_call 83; refine (is_any p q xs g 0 true HB.out _ H.out).mono ?_; rintro e w' ⟨rfl, hw'⟩; obtain rfl := hw')
      go_ret
      have := H.out.setStatus HK.out 1
      rw [HT.out] at this
      exact ⟨rfl, this, Kp.setCell _ _ _ (fun _ => rfl)⟩

theorem isB_some {xs : List (Int × Bool)} {g s : Int} {x : Int × Bool} (hx : seat? xs g = some x) : isB xs g s = (x.1 == s) := by unfold isB; rw [hx]
theorem isB_none {xs : List (Int × Bool)} {g s : Int} (hx : seat? xs g = none) : isB xs g s = false := by unfold isB; rw [hx]

set_option maxHeartbeats 1000000 in
theorem ready_any (p q : Nat) (xs : List (Int × Bool)) (g : Int) (ys : List (Int × Bool)) (b : Bool) (hr : readyR xs g = (ys, b)) (w : World) (h : IsBench w p q xs) :
    Calls Try.prog 38 #[.pointer (some ⟨p, 0, none⟩), .int .i64 g] w fun e w' => e = .returned (.bool b) ∧ IsBench w' p q ys ∧ Kp (· = q) w w' := by
  have c0 := h.head.cell (i := 0) rfl
  have hle := h.le
  have H := hid h
  cases hx : seat? xs g with
  | none =>
    have e : (ys, b) = (xs, false) := by rw [← hr]; unfold readyR; rw [hx]
    cases e
    have HB1 := hid (isB_none (s := 1) hx)
    have HB0 := hid (isB_none (s := 0) hx)
    clear h hr hx
    go_enter Try.func38, Try.ntmps38
    go_wp2_with fail
    refine (is_any p q xs g 1 false HB1.out _ H.out).mono ?_
    rintro e w' ⟨rfl, hw'⟩
    obtain rfl := hw'
    go_wp2_with fail
    refine (is_any p q xs g 0 false HB0.out _ H.out).mono ?_
    rintro e w' ⟨rfl, hw'⟩
    obtain rfl := hw'
    go_wp2_with fail
    go_ret
    exact ⟨rfl, H.out, Kp.refl _ _⟩
  | some x =>
    obtain ⟨hg0, hg1, hk⟩ := seat?_some hx
    have hct := h.token hk
    have hf0 := h.row.frozen (g.toNat * 2)
    have hf1 := h.row.frozen (g.toNat * 2 + 1)
    have hcs := h.status hk
    have HK := hid hk
    by_cases h1 : x.1 = 1
    · have e : (ys, b) = (xs.set g.toNat (0, x.2), true) := by rw [← hr]; unfold readyR; rw [hx]; simp [h1]
      cases e
      have HB1 := hid (show isB xs g 1 = true by rw [isB_some hx]; simpa using h1)
      clear h hr hx hk h1 hct
      go_enter Try.func38, Try.ntmps38
      go_wp2_with (go_at_call 83; refine (is_any p q xs g 1 true HB1.out _ H.out).mono ?_; rintro e w' ⟨rfl, hw'⟩; obtain rfl := hw')
      go_ret
      exact ⟨rfl, H.out.setStatus HK.out 0, Kp.setCell _ _ _ (fun _ => rfl)⟩
    · have HB1 := hid (show isB xs g 1 = false by rw [isB_some hx]; simpa using h1)
      by_cases h0 : x.1 = 0
      · have HB0 := hid (show isB xs g 0 = true by rw [isB_some hx]; simpa using h0)
        cases ht : x.2 with
        | false =>
          have e : (ys, b) = (xs.set g.toNat (0, true), true) := by rw [← hr]; unfold readyR; rw [hx]; simp [h0, ht]
          cases e
          rw [ht] at hct
          have H0 := hid h0
          clear h hr hx hk h1 h0 hcs ht
          go_enter Try.func38, Try.ntmps38
          go_wp2_with fail
          refine (is_any p q xs g 1 false HB1.out _ H.out).mono ?_
          rintro e w' ⟨rfl, hw'⟩
          obtain rfl := hw'
          go_wp2_with fail
          refine (is_any p q xs g 0 true HB0.out _ H.out).mono ?_
          rintro e w' ⟨rfl, hw'⟩
          obtain rfl := hw'
          go_wp2_with fail
          go_ret
          have := H.out.setToken HK.out true
          rw [H0.out] at this
          exact ⟨rfl, this, Kp.setCell _ _ _ (fun _ => rfl)⟩
        | true =>
          have e : (ys, b) = (xs, false) := by rw [← hr]; unfold readyR; rw [hx]; simp [h0, ht]
          cases e
          rw [ht] at hct
          clear h hr hx hk h1 h0 hcs ht
          go_enter Try.func38, Try.ntmps38
          go_wp2_with fail
          refine (is_any p q xs g 1 false HB1.out _ H.out).mono ?_
          rintro e w' ⟨rfl, hw'⟩
          obtain rfl := hw'
          go_wp2_with fail
          refine (is_any p q xs g 0 true HB0.out _ H.out).mono ?_
          rintro e w' ⟨rfl, hw'⟩
          obtain rfl := hw'
          go_wp2_with fail
          go_ret
          exact ⟨rfl, H.out, Kp.refl _ _⟩
      · have HB0 := hid (show isB xs g 0 = false by rw [isB_some hx]; simpa using h0)
        have e : (ys, b) = (xs, false) := by rw [← hr]; unfold readyR; rw [hx]; simp [h1, h0]
        cases e
        clear h hr hx hk h1 h0 hcs hct
        go_enter Try.func38, Try.ntmps38
        go_wp2_with fail
        refine (is_any p q xs g 1 false HB1.out _ H.out).mono ?_
        rintro e w' ⟨rfl, hw'⟩
        obtain rfl := hw'
        go_wp2_with fail
        refine (is_any p q xs g 0 false HB0.out _ H.out).mono ?_
        rintro e w' ⟨rfl, hw'⟩
        obtain rfl := hw'
        go_wp2_with fail
        go_ret
        exact ⟨rfl, H.out, Kp.refl _ _⟩

/-- Both cells of a seat at once. -/
theorem IsBench.setBoth {w : World} {p q : Nat} {xs : List (Int × Bool)} (h : IsBench w p q xs) {k : Nat} {x : Int × Bool} (hx : xs[k]? = some x) (s : Int) (t : Bool) :
    IsBench ((w.setCell ⟨q, k * 2, none⟩ (.int .i64 s)).setCell ⟨q, k * 2 + 1, none⟩ (.bool t)) p q (xs.set k (s, t)) := by
  have h1 := h.setStatus hx s
  have hk : k < xs.length := (List.getElem?_eq_some_iff.1 hx).1
  have h2 := h1.setToken (k := k) (x := (s, x.2)) (by simp [hk]) t
  rwa [List.set_set] at h2

set_option maxHeartbeats 400000 in
theorem end_any (p q : Nat) (xs : List (Int × Bool)) (g : Int) (ys : List (Int × Bool)) (b : Bool) (hr : endR xs g = (ys, b)) (w : World) (h : IsBench w p q xs) :
    Calls Try.prog 40 #[.pointer (some ⟨p, 0, none⟩), .int .i64 g] w fun e w' => e = .returned (.bool b) ∧ IsBench w' p q ys ∧ Kp (· = q) w w' := by
  have c0 := h.head.cell (i := 0) rfl
  have hle := h.le
  have H := hid h
  cases hb : isB xs g 0 with
  | false =>
    have e : (ys, b) = (xs, false) := by
      rw [← hr]; unfold endR; unfold isB at hb
      split
      · rename_i x hx; rw [hx] at hb; simp only [beq_eq_false_iff_ne] at hb; rw [if_neg hb]
      · rfl
    cases e
    have HB := hid hb
    clear h hb hr
    go_enter Try.func40, Try.ntmps40
    go_wp2_with (go_at_call 83; refine (is_any p q xs g 0 false HB.out _ H.out).mono ?_; rintro e w' ⟨rfl, hw'⟩; obtain rfl := hw')
    go_ret
    exact ⟨rfl, H.out, Kp.refl _ _⟩
  | true =>
    obtain ⟨x, hx, h0⟩ : ∃ x, seat? xs g = some x ∧ x.1 = 0 := by
      unfold isB at hb
      split at hb
      · rename_i x hx; exact ⟨x, hx, by simpa using hb⟩
      · cases hb
    obtain ⟨hg0, hg1, hk⟩ := seat?_some hx
    have hct := h.token hk
    have hf0 := h.row.frozen (g.toNat * 2)
    have hf1 := h.row.frozen (g.toNat * 2 + 1)
    have hcs := h.status hk
    have HB := hid hb
    have HK := hid hk
    have e : (ys, b) = (xs.set g.toNat (2, false), true) := by rw [← hr]; unfold endR; rw [hx]; simp [h0]
    cases e
    clear h hb hr hx hk h0
    go_enter Try.func40, Try.ntmps40
    go_wp2_with (go_at_call 83; refine (is_any p q xs g 0 true HB.out _ H.out).mono ?_; rintro e w' ⟨rfl, hw'⟩; obtain rfl := hw')
    go_ret
    exact ⟨rfl, H.out.setBoth HK.out 2 false, (Kp.setCell (S := (· = q)) _ _ _ (fun _ => rfl)).trans' (Kp.setCell _ _ _ (fun _ => rfl))⟩

set_option maxHeartbeats 400000 in
theorem set_any (p q : Nat) (xs : List (Int × Bool)) (g s : Int) (t : Bool) (ys : List (Int × Bool)) (b : Bool) (hr : setR xs g s t = (ys, b)) (w : World) (h : IsBench w p q xs) :
    Calls Try.prog 61 #[.pointer (some ⟨p, 0, none⟩), .int .i64 g, .int .i64 s, .bool t] w fun e w' => e = .returned (.bool b) ∧ IsBench w' p q ys ∧ Kp (· = q) w w' := by
  have c0 := h.head.cell (i := 0) rfl
  have hle := h.le
  have H := hid h
  cases hx : seat? xs g with
  | none =>
    have e : (ys, b) = (xs, false) := by rw [← hr]; unfold setR; rw [hx]
    cases e
    have HB := hid (show hasB xs g = false by unfold hasB; rw [hx]; rfl)
    clear h hr hx
    go_enter Try.func61, Try.ntmps61
    go_wp2_with (go_at_call 84; refine (has_any p q xs g false HB.out _ H.out).mono ?_; rintro e w' ⟨rfl, hw'⟩; obtain rfl := hw')
    go_ret
    exact ⟨rfl, H.out, Kp.refl _ _⟩
  | some x =>
    obtain ⟨hg0, hg1, hk⟩ := seat?_some hx
    have hct := h.token hk
    have hf0 := h.row.frozen (g.toNat * 2)
    have hf1 := h.row.frozen (g.toNat * 2 + 1)
    have hcs := h.status hk
    have HK := hid hk
    have HB := hid (show hasB xs g = true by unfold hasB; rw [hx]; rfl)
    by_cases h0 : 0 ≤ s ∧ s ≤ 2
    · have e : (ys, b) = (xs.set g.toNat (s, t), true) := by rw [← hr]; unfold setR; rw [hx]; simp [h0]
      cases e
      obtain ⟨hs0, hs1⟩ := h0
      clear h hr hx hk
      go_enter Try.func61, Try.ntmps61
      go_wp2_with (go_at_call 84; refine (has_any p q xs g true HB.out _ H.out).mono ?_; rintro e w' ⟨rfl, hw'⟩; obtain rfl := hw')
      go_ret
      exact ⟨rfl, H.out.setBoth HK.out s t, (Kp.setCell (S := (· = q)) _ _ _ (fun _ => rfl)).trans' (Kp.setCell _ _ _ (fun _ => rfl))⟩
    · have e : (ys, b) = (xs, false) := by rw [← hr]; unfold setR; rw [hx]; simp [h0]
      cases e
      clear h hr hx hk
      rcases (show s < 0 ∨ (0 ≤ s ∧ 2 < s) by omega) with h1 | ⟨h1, h2⟩
      all_goals
        clear h0
        go_enter Try.func61, Try.ntmps61
        go_wp2_with (go_at_call 84; refine (has_any p q xs g true HB.out _ H.out).mono ?_; rintro e w' ⟨rfl, hw'⟩; obtain rfl := hw')
        go_ret
        exact ⟨rfl, H.out, Kp.refl _ _⟩

/-- Of the first k seats those that run. -/
def runP (xs : List (Int × Bool)) : Nat → List Int
  | 0 => []
  | k + 1 => runP xs k ++ (if isB xs (k : Int) 0 then [(k : Int)] else [])
theorem runP_succ (xs : List (Int × Bool)) (k : Nat) : runP xs (k + 1) = runP xs k ++ (if isB xs (k : Int) 0 then [(k : Int)] else []) := rfl
theorem length_runP (xs : List (Int × Bool)) (k : Nat) : (runP xs k).length ≤ k := by
  induction k with
  | zero => simp [runP]
  | succ k ih => rw [runP_succ, List.length_append]; split <;> simp <;> omega

set_option maxHeartbeats 1000000 in
theorem running_any (p q : Nat) (xs : List (Int × Bool)) (w : World) (h : IsBench w p q xs) :
    Calls Try.prog 41 #[.pointer (some ⟨p, 0, none⟩)] w fun e w' => ∃ v, e = .returned v ∧ Ints w' v (runP xs xs.length) ∧ (∀ b, v.ownBlock = some b → w.heap.size ≤ b) ∧ Kp No w w' := by
  have c0 := h.head.cell (i := 0) rfl
  have hle := h.le
  have H := hid h
  clear h
  go_enter Try.func41, Try.ntmps41
  go_wp2
  go_loopw [3, 10] (fun v i wr => ∃ (k : Nat), k ≤ xs.length ∧ i = .int .i64 k ∧ Ints wr v (runP xs k) ∧ (∀ b, v.ownBlock = some b → w.heap.size ≤ b) ∧ Kp No w wr) (fun _ i _ => xs.length - (intOf i).toNat)
  case atStart => exact ⟨0, Nat.zero_le _, rfl, Sl.nil _ _ _, (by simp [Value.ownBlock]), Kp.refl _ _⟩
  case round =>
    obtain ⟨k, hk, rfl, hv, hb, hkp⟩ := hrel
    have HV := hid hv
    have HB := hid hb
    have HK := hid hkp
    clear hv hb hkp
    by_cases hlt : k < xs.length
    · have hx := hid (runP_succ xs k)
      have hln := length_runP xs k
      cases hy : isB xs (k : Int) 0 with
      | true =>
        have hx1 := hx.out
        rw [hy] at hx1
        have HX := hid hx1
        have HY := hid hy
        clear hx hy hx1
        generalize runP xs k = ys at *
        go_wp2_with (first | (go_at_call 83; refine (is_any p q xs k 0 true HY.out _ (H.out.kpN HK.out)).mono ?_; rintro e w' ⟨rfl, hw'⟩; rw [hw']; clear hw') | (at_builtin; refine wpl_append rfl (.tmp 16) (.tmp 18) 23 rfl el23 _ ys.length (ys.map (Value.int .i64)) rfl (Sl.kp (Kp.alloc No _ _) HV.out (fun _ _ => id)) (some ⟨wr.heap.size, 0, none⟩) 1 1 [.int .i64 k] rfl rfl (fun _ => ⟨_, rfl, cell_one_new _ _ _⟩) (by intro u hu; simp at hu; subst hu; rfl) (by unfold maxLen; omega) (by omega) (fun e => by cases e) ?_; intro v' w1 hv hk1 hm; have HV1 := hid hv; have HK1 := hid ((Kp.alloc _ wr _).trans' hk1); have HM := hid (moved_ge hm HB.out (by have := HK.out.size; simp; omega)); clear hv hk1 hm))
        go_roundw
        case rel => exact ⟨k + 1, by omega, by go_num, by rw [HX.out]; unfold Ints; simpa using HV1.out, HM.out, HK.out.trans HK1.out (by intro i hi he; have := HB.out i he; omega)⟩
        case measure => simp [intOf]; omega
      | false =>
        have hx1 := hx.out
        rw [hy, if_neg (by decide), List.append_nil] at hx1
        have HX := hid hx1
        have HY := hid hy
        clear hx hx1 hy
        go_wp2_with (go_at_call 83; refine (is_any p q xs k 0 false HY.out _ (H.out.kpN HK.out)).mono ?_; rintro e w' ⟨rfl, hw'⟩; rw [hw']; clear hw')
        go_roundw
        case rel => exact ⟨k + 1, by omega, by go_num, by rw [HX.out]; exact HV.out, HB.out, HK.out⟩
        case measure => simp [intOf]; omega
    · go_wp2
      go_ret
      refine ⟨_, rfl, ?_, HB.out, HK.out⟩
      have := HV.out
      rwa [show k = xs.length by omega] at this

set_option maxHeartbeats 1000000 in
theorem new_bench (n : Int) (w : World) :
    Calls Try.prog 37 #[.int .i64 n] w fun e w' => ∃ p q, e = .returned (.pointer (some ⟨p, 0, none⟩)) ∧ IsBench w' p q (List.replicate (newN n) (0, false)) ∧ w.heap.size ≤ p ∧ w.heap.size ≤ q ∧ Kp No w w' := by
  by_cases h0 : n < 0
  · have hN : newN n = 0 := by unfold newN; omega
    rw [hN]
    clear hN
    go_enter Try.func37, Try.ntmps37
    go_wp2_with (at_make; refine wpl_make rfl _ _ 113 rfl el113 .i64 .i64 0 rfl rfl (by omega) (by omega) ?_; intro w1 hb1 hk1; have HB := hid hb1; have HK := hid hk1; have hs := hb1.lt; clear hb1 hk1)
    go_ret
    first | exact ⟨w1.heap.size, w.heap.size, rfl, ⟨by simpa using Blk.new w1 115 [.slice (some ⟨w.heap.size, 0, none⟩) 0 0], by have := HB.out.kp' (Kp.alloc No w1 (.cells [Value.slice (some ⟨w.heap.size, 0, none⟩) 0 0].toArray 115)); rw [show [Value.int .i64 0, .bool false] = seatC (0, false) from rfl, recs_reps] at this; exact this, by simp⟩, by omega, Nat.le_refl _, HK.out.trans' (Kp.alloc _ _ _)⟩ | exact ⟨w1.heap.size, rfl, w.heap.size, ⟨by simpa using Blk.new w1 115 [.slice (some ⟨w.heap.size, 0, none⟩) 0 0], by have := HB.out.kp' (Kp.alloc No w1 (.cells [Value.slice (some ⟨w.heap.size, 0, none⟩) 0 0].toArray 115)); rw [show [Value.int .i64 0, .bool false] = seatC (0, false) from rfl, recs_reps] at this; exact this, by simp⟩, by omega, Nat.le_refl _, HK.out.trans' (Kp.alloc _ _ _)⟩
  by_cases h1 : 4096 < n
  · have hN : newN n = 4096 := by unfold newN; omega
    rw [hN]
    clear hN
    go_enter Try.func37, Try.ntmps37
    go_wp2_with (at_make; refine wpl_make rfl _ _ 113 rfl el113 .i64 .i64 4096 rfl rfl (by omega) (by omega) ?_; intro w1 hb1 hk1; have HB := hid hb1; have HK := hid hk1; have hs := hb1.lt; clear hb1 hk1)
    go_ret
    first | exact ⟨w1.heap.size, w.heap.size, rfl, ⟨by simpa using Blk.new w1 115 [.slice (some ⟨w.heap.size, 0, none⟩) 4096 4096], by have := HB.out.kp' (Kp.alloc No w1 (.cells [Value.slice (some ⟨w.heap.size, 0, none⟩) 4096 4096].toArray 115)); rw [show [Value.int .i64 0, .bool false] = seatC (0, false) from rfl, recs_reps] at this; exact this, by simp⟩, by omega, Nat.le_refl _, HK.out.trans' (Kp.alloc _ _ _)⟩ | exact ⟨w1.heap.size, rfl, w.heap.size, ⟨by simpa using Blk.new w1 115 [.slice (some ⟨w.heap.size, 0, none⟩) 4096 4096], by have := HB.out.kp' (Kp.alloc No w1 (.cells [Value.slice (some ⟨w.heap.size, 0, none⟩) 4096 4096].toArray 115)); rw [show [Value.int .i64 0, .bool false] = seatC (0, false) from rfl, recs_reps] at this; exact this, by simp⟩, by omega, Nat.le_refl _, HK.out.trans' (Kp.alloc _ _ _)⟩
  · obtain ⟨m, rfl⟩ := Int.eq_ofNat_of_zero_le (show 0 ≤ n by omega)
    have hN : newN m = m := by unfold newN; omega
    rw [hN]
    clear hN
    go_enter Try.func37, Try.ntmps37
    go_wp2_with (at_make; refine wpl_make rfl _ _ 113 rfl el113 .i64 .i64 m rfl rfl (by omega) (by omega) ?_; intro w1 hb1 hk1; have HB := hid hb1; have HK := hid hk1; have hs := hb1.lt; clear hb1 hk1)
    go_ret
    first | exact ⟨w1.heap.size, w.heap.size, rfl, ⟨by simpa using Blk.new w1 115 [.slice (some ⟨w.heap.size, 0, none⟩) m m], by have := HB.out.kp' (Kp.alloc No w1 (.cells [Value.slice (some ⟨w.heap.size, 0, none⟩) m m].toArray 115)); rw [show [Value.int .i64 0, .bool false] = seatC (0, false) from rfl, recs_reps] at this; exact this, by simp; omega⟩, by omega, Nat.le_refl _, HK.out.trans' (Kp.alloc _ _ _)⟩ | exact ⟨w1.heap.size, rfl, w.heap.size, ⟨by simpa using Blk.new w1 115 [.slice (some ⟨w.heap.size, 0, none⟩) m m], by have := HB.out.kp' (Kp.alloc No w1 (.cells [Value.slice (some ⟨w.heap.size, 0, none⟩) m m].toArray 115)); rw [show [Value.int .i64 0, .bool false] = seatC (0, false) from rfl, recs_reps] at this; exact this, by simp; omega⟩, by omega, Nat.le_refl _, HK.out.trans' (Kp.alloc _ _ _)⟩

set_option maxHeartbeats 1000000 in
theorem alive_bench (w : World) : Calls Try.prog 36 #[] w fun e w' => e = .returned (.bool true) ∧ Kp No w w' := by
  go_enter Try.func36, Try.ntmps36
  go_wp2_with fail
  refine (new_bench 2 _).mono ?_
  rintro e w1 ⟨p, q, rfl, hi, hp, hq, hk⟩
  have HI := hid (show IsBench w1 p q [(0, false), (0, false)] from hi)
  have HK := hid hk
  clear hi hk
  go_wp2_with fail
  refine (ready_any p q [(0, false), (0, false)] 0 [(0, true), (0, false)] true rfl _ HI.out).mono ?_
  rintro e w2 ⟨rfl, hi, hk⟩
  have HI := hid hi
  have HK := hid (HK.out.trans hk (by intro i hi he; omega))
  clear hi hk
  go_wp2_with fail
  refine (park_any p q [(0, true), (0, false)] 0 [(0, false), (0, false)] false rfl _ HI.out).mono ?_
  rintro e w3 ⟨rfl, hi, hk⟩
  have HI := hid hi
  have HK := hid (HK.out.trans hk (by intro i hi he; omega))
  clear hi hk
  go_wp2_with fail
  refine (status_any p q [(0, false), (0, false)] 0 0 rfl _ HI.out).mono ?_
  rintro e w' ⟨rfl, hw'⟩
  rw [hw']; clear hw' w'
  go_wp2_with fail
  refine (park_any p q [(0, false), (0, false)] 1 [(0, false), (1, false)] true rfl _ HI.out).mono ?_
  rintro e w4 ⟨rfl, hi, hk⟩
  have HI := hid hi
  have HK := hid (HK.out.trans hk (by intro i hi he; omega))
  clear hi hk
  go_wp2_with fail
  refine (status_any p q [(0, false), (1, false)] 1 1 rfl _ HI.out).mono ?_
  rintro e w' ⟨rfl, hw'⟩
  rw [hw']; clear hw' w'
  go_wp2_with fail
  refine (ready_any p q [(0, false), (1, false)] 1 [(0, false), (0, false)] true rfl _ HI.out).mono ?_
  rintro e w5 ⟨rfl, hi, hk⟩
  have HI := hid hi
  have HK := hid (HK.out.trans hk (by intro i hi he; omega))
  clear hi hk
  go_wp2_with fail
  refine (status_any p q [(0, false), (0, false)] 1 0 rfl _ HI.out).mono ?_
  rintro e w' ⟨rfl, hw'⟩
  rw [hw']; clear hw' w'
  go_wp2_with fail
  go_ret
  exact ⟨rfl, HK.out⟩

end Go.Proofs.Ytijpdeanbkodkaa
