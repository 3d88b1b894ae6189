/-
  The contracts of package ring: what each function answers, and what becomes of its places.
-/
import Derived.Test.YtijpdeanbkodkaaRows
import Derived.Test.YtijpdeanbkodkaaRingP
import Derived.Test.YtijpdeanbkodkaaLib
import Derived.Test.YtijpdeanbkodkaaTail
namespace Go.Proofs.Ytijpdeanbkodkaa
open Go.RowKit
set_option maxRecDepth 100000

theorem el55 : Elem Try.prog 55 2 [.int .i64 0] 8 := Elem.of Try.underlying55 (by kernel_rfl : (Try.prog.info? 2).map (fun i => (i.zero, i.size, i.bytes)) = some (some (.int .i64 0), 1, 8)) rfl (by decide)

/-- A slice of int64s. -/
def Row (w : World) (v : Value) (xs : List Int) : Prop := Sl w 2 1 v xs.length (xs.map (Value.int .i64))
theorem Row.kp {w w' : World} {v : Value} {xs : List Int} {S : Nat → Prop} (h : Row w v xs) (hk : Kp S w w') (hv : ∀ k, v.ownBlock = some k → ¬ S k) : Row w' v xs := Sl.kp hk h hv
theorem Row.kpN {w w' : World} {v : Value} {xs : List Int} (h : Row w v xs) (hk : Kp No w w') : Row w' v xs := Sl.kp hk h (fun _ _ => id)
theorem Row.cell {w : World} {g n c : Nat} {xs : List Int} (h : Row w (.slice (some ⟨g, 0, none⟩) n c) xs) (hn : n = xs.length) {k : Nat} (hk : k < xs.length) : w.cell? ⟨g, k, none⟩ = some (.int .i64 (xs[k]?.getD 0)) := by
  subst hn
  exact Sl.cell h (by simp [hk])

theorem Blk.off {w : World} {b : Nat} {t : TypeId} {cs : List Value} (h : Blk w b t cs) (g j : Nat) (v : Value) (hne : b ≠ g) : Blk (w.setCell ⟨g, j, none⟩ v) b t cs :=
  (Kp.setCell (S := (· = g)) w ⟨g, j, none⟩ v (fun _ => rfl)).blk h hne
theorem Blk.dN {w : World} {b : Nat} {t : TypeId} {cs : List Value} (h : Blk w b t cs) (m : Nat) : Blk (w.drewN m) b t cs := h.kp' (Kp.drewN No _ _)

/-- A ring of R places at q, its head at p: the row that is in it. -/
structure IsRing (w : World) (p q R : Nat) (row : List Int) : Prop where
  le : R ≤ 64
  laid : ∃ ls f t, Blk w p 119 [.slice (some ⟨q, 0, none⟩) R R, .int .i64 (f : Nat), .int .i64 (t : Nat), .int .i64 row.length] ∧ Blk w q 2 (ls.map (Value.int .i64)) ∧ RingOK R ls f t row

theorem IsRing.kp {w w' : World} {p q R : Nat} {row : List Int} {S : Nat → Prop} (h : IsRing w p q R row) (hk : Kp S w w') (hp : ¬ S p) (hq : ¬ S q) : IsRing w' p q R row := by
  obtain ⟨hl, ls, f, t, h1, h2, h3⟩ := h
  exact ⟨hl, ls, f, t, hk.blk h1 hp, hk.blk h2 hq, h3⟩
theorem IsRing.kpN {w w' : World} {p q R : Nat} {row : List Int} (h : IsRing w p q R row) (hk : Kp No w w') : IsRing w' p q R row := h.kp hk id id
theorem IsRing.len {w : World} {p q R : Nat} {row : List Int} (h : IsRing w p q R row) : row.length ≤ R := by
  obtain ⟨hl, ls, f, t, h1, h2, h3⟩ := h
  exact h3.le
theorem IsRing.ltp {w : World} {p q R : Nat} {row : List Int} (h : IsRing w p q R row) : p < w.heap.size ∧ q < w.heap.size := by
  obtain ⟨hl, ls, f, t, h1, h2, h3⟩ := h
  exact ⟨h1.lt, h2.lt⟩

set_option maxHeartbeats 400000 in
theorem len_ring (p q R : Nat) (row : List Int) (w : World) (h : IsRing w p q R row) :
    Calls Try.prog 49 #[.pointer (some ⟨p, 0, none⟩)] w fun e w' => e = .returned (.int .i64 row.length) ∧ w' = w := by
  obtain ⟨hl, ls, f, t, h1, h2, h3⟩ := h
  have c3 := h1.cell (i := 3) rfl
  have hle := h3.le
  clear h1 h2 h3
  go_enter Try.func49, Try.ntmps49
  go_wp2
  go_ret
  exact ⟨rfl, rfl⟩

set_option maxHeartbeats 400000 in
theorem room_ring (p q R : Nat) (row : List Int) (w : World) (h : IsRing w p q R row) :
    Calls Try.prog 53 #[.pointer (some ⟨p, 0, none⟩)] w fun e w' => e = .returned (.int .i64 R) ∧ w' = w := by
  obtain ⟨hl, ls, f, t, h1, h2, h3⟩ := h
  have c0 := h1.cell (i := 0) rfl
  clear h1 h2 h3
  go_enter Try.func53, Try.ntmps53
  go_wp2
  go_ret
  exact ⟨rfl, rfl⟩

set_option maxHeartbeats 400000 in
theorem full_ring (p q R : Nat) (row : List Int) (b : Bool) (hb : ((row.length : Int) == (R : Int)) = b) (w : World) (h : IsRing w p q R row) :
    Calls Try.prog 47 #[.pointer (some ⟨p, 0, none⟩)] w fun e w' => e = .returned (.bool b) ∧ ∃ m, w' = w.drewN m := by
  obtain ⟨hl, ls, f, t, h1, h2, h3⟩ := h
  have c0 := h1.cell (i := 0) rfl
  have c3 := h1.cell (i := 3) rfl
  have hle := h3.le
  clear h1 h2 h3
  subst hb
  go_enter Try.func47, Try.ntmps47
  go_wp2
  go_quiet (fail)
  go_wp2
  go_ret
  exact ⟨rfl, _, rfl⟩

set_option maxHeartbeats 400000 in
theorem next_ring (p q R i : Nat) (w : World) (c0 : w.cell? ⟨p, 0, none⟩ = some (.slice (some ⟨q, 0, none⟩) R R)) (hi : i < R) (hR : R ≤ 64) :
    Calls Try.prog 85 #[.pointer (some ⟨p, 0, none⟩), .int .i64 i] w fun e w' => e = .returned (.int .i64 (ix R i 1 : Nat)) ∧ w' = w := by
  rw [ix_one hi]
  by_cases h : i + 1 = R
  · have h1 : (((i : Int) + 1) == (R : Int)) = true := by simp; omega
    rw [if_pos h]
    clear h
    go_enter Try.func85, Try.ntmps85
    go_wp2
    go_ret
    exact ⟨rfl, rfl⟩
  · have h1 : (((i : Int) + 1) == (R : Int)) = false := by simp; omega
    rw [if_neg h]
    clear h
    go_enter Try.func85, Try.ntmps85
    go_wp2
    go_ret
    exact ⟨rfl, rfl⟩

/-- What is in a ring behind a value that comes in, and whether it comes in. -/
def putR (R : Nat) (row : List Int) (v : Int) : List Int × Bool := if row.length < R then (row ++ [v], true) else (row, false)

set_option maxHeartbeats 1000000 in
theorem put_any (p q R : Nat) (row : List Int) (v : Int) (ys : List Int) (b : Bool) (hr : putR R row v = (ys, b)) (w : World) (h : IsRing w p q R row) :
    Calls Try.prog 46 #[.pointer (some ⟨p, 0, none⟩), .int .i64 v] w fun e w' => e = .returned (.bool b) ∧ IsRing w' p q R ys ∧ Kp (fun k => k = p ∨ k = q) w w' := by
  have H := hid h
  have hlen := h.len
  have hR := h.le
  by_cases hlt : row.length < R
  · have e : (ys, b) = (row ++ [v], true) := by rw [← hr]; unfold putR; rw [if_pos hlt]
    cases e
    obtain ⟨_, ls, f, t, h1, h2, h3⟩ := h
    obtain ⟨htR, h4⟩ := h3.put hlt v
    have hls := h3.len
    have c0 := h1.cell (i := 0) rfl
    have c2 := h1.cell (i := 2) rfl
    have c3 := h1.cell (i := 3) rfl
    have f2 := h1.frozen 2
    have f3 := h1.frozen 3
    have cq := h2.cell (i := t) (v := .int .i64 (ls[t]?.getD 0)) (by simp [show t < ls.length by omega])
    have fq := h2.frozen t
    have hne : p ≠ q := h1.ne h2 (by decide)
    have hne2 : q ≠ p := hne.symm
    have hb : ((row.length : Int) == (R : Int)) = false := by simp; omega
    have HB := hid hb
    have H1 := hid h1
    have H2 := hid h2
    have H4 := hid h4
    have C0 : Hid (∀ w', Kp (· = q) w w' → w'.cell? ⟨p, 0, none⟩ = some (.slice (some ⟨q, 0, none⟩) R R)) := fun w' hk => hk.cell c0 hne
    generalize ls[t]?.getD 0 = x at *
    clear h1 h2 h3 h4 hr hls hb
    go_enter Try.func46, Try.ntmps46
    go_wp2_with fail
    refine (full_ring p q R row false HB.out _ H.out).mono ?_
    rintro e w' ⟨rfl, m, hw'⟩
    rw [hw']; clear hw' w'
    go_wp2
    refine wp_quiet_tail 10 (by kernel_rfl) (by kernel_rfl) ?_
    simp only [List.take_succ_cons, List.take_zero, List.drop_succ_cons, List.drop_zero]
    repeat (go_big_quiet_step (fail))
    refine wpQuiet_nil ?_
    intro m2
    go_wp2_with fail
    refine (next_ring p q R t _ (C0.out _ ((Kp.drewN _ _ _).trans' (Kp.setCell _ _ _ (fun _ => rfl)))) htR hR).mono ?_
    rintro e w' ⟨rfl, hw'⟩
    rw [hw']; clear hw' w'
    go_wp2_with fail
    go_ret
    refine ⟨rfl, ⟨hR, _, _, _, ?_, ?_, H4.out⟩, ((Kp.drewN _ _ _).trans' (Kp.setCell _ _ _ fun _ => .inr rfl)).trans' ((Kp.setCell _ _ _ fun _ => .inl rfl).trans' (Kp.setCell _ _ _ fun _ => .inl rfl))⟩
    · simpa using ((((H1.out.dN _).off q t (.int .i64 v) hne).set 2 (.int .i64 (ix R t 1 : Nat))).set 3 (.int .i64 (row.length + 1)))
    · rw [List.map_set]
      exact ((((H2.out.dN _).set t (.int .i64 v)).off p 2 _ hne2).off p 3 _ hne2)
  · have e : (ys, b) = (row, false) := by rw [← hr]; unfold putR; rw [if_neg hlt]
    cases e
    have hb : ((row.length : Int) == (R : Int)) = true := by simp; omega
    have HB := hid hb
    clear h hr hb
    go_enter Try.func46, Try.ntmps46
    go_wp2_with fail
    refine (full_ring p q R row true HB.out _ H.out).mono ?_
    rintro e w' ⟨rfl, m, hw'⟩
    rw [hw']; clear hw' w'
    go_wp2
    go_ret
    exact ⟨rfl, H.out.kpN (Kp.drewN _ _ _), Kp.drewN _ _ _⟩

/-- What is in a ring when one has been got: the others, the one, whether there was one. -/
def getR (row : List Int) : List Int × Int × Bool := match row with | [] => ([], 0, false) | x :: r => (r, x, true)

set_option maxHeartbeats 1000000 in
theorem get_any (p q R : Nat) (row : List Int) (ys : List Int) (y : Int) (b : Bool) (hr : getR row = (ys, y, b)) (w : World) (h : IsRing w p q R row) :
    Calls Try.prog 48 #[.pointer (some ⟨p, 0, none⟩)] w fun e w' => e = .returned (.tuple #[.int .i64 y, .bool b]) ∧ IsRing w' p q R ys ∧ Kp (fun k => k = p ∨ k = q) w w' := by
  have H := hid h
  have hlen := h.len
  have hR := h.le
  cases row with
  | nil =>
    cases hr
    obtain ⟨_, ls, f, t, h1, h2, h3⟩ := h
    have c3 : w.cell? ⟨p, 3, none⟩ = some (.int .i64 0) := h1.cell (i := 3) rfl
    clear h1 h2 h3
    go_enter Try.func48, Try.ntmps48
    go_wp2
    go_ret2
    exact ⟨rfl, H.out, Kp.refl _ _⟩
  | cons x r =>
    obtain ⟨e1, e2, e3⟩ : ys = r ∧ y = x ∧ b = true := by simp only [getR, Prod.mk.injEq] at hr; exact ⟨hr.1.symm, hr.2.1.symm, hr.2.2.symm⟩
    subst ys y b
    clear hr
    obtain ⟨_, ls, f, t, h1, h2, h3⟩ := h
    obtain ⟨hfR, hx⟩ := h3.head
    have h4 := h3.get
    have hls := h3.len
    have c0 := h1.cell (i := 0) rfl
    have c1 := h1.cell (i := 1) rfl
    have c3 : w.cell? ⟨p, 3, none⟩ = some (.int .i64 ((r.length : Int) + 1)) := by have := h1.cell (i := 3) rfl; simpa using this
    have f1 := h1.frozen 1
    have f3 := h1.frozen 3
    have cq := h2.cell (i := f) (v := .int .i64 (ls[f]?.getD 0)) (by simp [show f < ls.length by omega])
    rw [hx] at cq
    have fq := h2.frozen f
    have hne : p ≠ q := h1.ne h2 (by decide)
    have hne2 : q ≠ p := hne.symm
    have hnz : (((r.length : Int) + 1) == 0) = false := by simp; omega
    have H1 := hid h1
    have H2 := hid h2
    have H4 := hid h4
    have C0 : Hid (∀ w', Kp (· = q) w w' → w'.cell? ⟨p, 0, none⟩ = some (.slice (some ⟨q, 0, none⟩) R R)) := fun w' hk => hk.cell c0 hne
    simp only [List.length_cons] at hlen
    clear h1 h2 h3 h4 hls hx
    go_enter Try.func48, Try.ntmps48
    go_wp2
    go_quiet (fail)
    go_wp2
    refine wp_quiet_tail 9 (by kernel_rfl) (by kernel_rfl) ?_
    simp only [List.take_succ_cons, List.take_zero, List.drop_succ_cons, List.drop_zero]
    repeat (go_big_quiet_step (fail))
    refine wpQuiet_nil ?_
    intro m2
    go_wp2_with fail
    refine (next_ring p q R f _ (C0.out _ ((Kp.drewN _ _ _).trans' (Kp.setCell _ _ _ (fun _ => rfl)))) hfR hR).mono ?_
    rintro e w' ⟨rfl, hw'⟩
    rw [hw']; clear hw' w'
    go_wp2_with fail
    go_ret2
    refine ⟨rfl, ⟨hR, _, _, _, ?_, ?_, H4.out⟩, ((Kp.drewN _ _ _).trans' (Kp.setCell _ _ _ fun _ => .inr rfl)).trans' ((Kp.setCell _ _ _ fun _ => .inl rfl).trans' (Kp.setCell _ _ _ fun _ => .inl rfl))⟩
    · simpa using ((((H1.out.dN _).off q f (.int .i64 0) hne).set 1 (.int .i64 (ix R f 1 : Nat))).set 3 (.int .i64 r.length))
    · rw [List.map_set]
      exact ((((H2.out.dN _).set f (.int .i64 0)).off p 1 _ hne2).off p 3 _ hne2)

/-- What is in a ring when one has come in and one out. -/
def passR (R : Nat) (row : List Int) (v : Int) : List Int × Int × Bool := if row.length < R then (row, 0, false) else match row with | [] => ([], 0, false) | x :: r => (r ++ [v], x, true)

set_option maxHeartbeats 1000000 in
theorem pass_any (p q R : Nat) (row : List Int) (v : Int) (ys : List Int) (y : Int) (b : Bool) (hr : passR R row v = (ys, y, b)) (w : World) (h : IsRing w p q R row) :
    Calls Try.prog 65 #[.pointer (some ⟨p, 0, none⟩), .int .i64 v] w fun e w' => e = .returned (.tuple #[.int .i64 y, .bool b]) ∧ IsRing w' p q R ys ∧ Kp (fun k => k = p ∨ k = q) w w' := by
  have H := hid h
  have hlen := h.len
  have hR := h.le
  by_cases hlt : row.length < R
  · have e : (ys, y, b) = (row, 0, false) := by rw [← hr]; unfold passR; rw [if_pos hlt]
    cases e
    have hb : ((row.length : Int) == (R : Int)) = false := by simp; omega
    have HB := hid hb
    clear h hr hb
    go_enter Try.func65, Try.ntmps65
    go_wp2_with fail
    refine (full_ring p q R row false HB.out _ H.out).mono ?_
    rintro e w' ⟨rfl, m, hw'⟩
    rw [hw']; clear hw' w'
    go_wp2
    go_ret2
    exact ⟨rfl, H.out.kpN (Kp.drewN _ _ _), Kp.drewN _ _ _⟩
  have hb : ((row.length : Int) == (R : Int)) = true := by simp; omega
  have HB := hid hb
  clear hb
  cases row with
  | nil =>
    unfold passR at hr
    rw [if_neg hlt] at hr
    cases hr
    obtain ⟨_, ls, f, t, h1, h2, h3⟩ := h
    have c3 : w.cell? ⟨p, 3, none⟩ = some (.int .i64 0) := h1.cell (i := 3) rfl
    clear h1 h2 h3
    go_enter Try.func65, Try.ntmps65
    go_wp2_with fail
    refine (full_ring p q R [] true HB.out _ H.out).mono ?_
    rintro e w' ⟨rfl, m, hw'⟩
    rw [hw']; clear hw' w'
    go_wp2
    go_ret2
    exact ⟨rfl, H.out.kpN (Kp.drewN _ _ _), Kp.drewN _ _ _⟩
  | cons x r =>
    unfold passR at hr
    rw [if_neg hlt] at hr
    obtain ⟨e1, e2, e3⟩ : ys = r ++ [v] ∧ y = x ∧ b = true := by simp only [Prod.mk.injEq] at hr; exact ⟨hr.1.symm, hr.2.1.symm, hr.2.2.symm⟩
    subst ys y b
    clear hr
    obtain ⟨_, ls, f, t, h1, h2, h3⟩ := h
    obtain ⟨hfR, hx⟩ := h3.head
    have h4 := h3.pass (by omega) v
    have hls := h3.len
    have c0 := h1.cell (i := 0) rfl
    have c1 := h1.cell (i := 1) rfl
    have c2 := h1.cell (i := 2) rfl
    have c3 : w.cell? ⟨p, 3, none⟩ = some (.int .i64 ((r.length : Int) + 1)) := by have := h1.cell (i := 3) rfl; simpa using this
    have f1 := h1.frozen 1
    have f2 := h1.frozen 2
    have cq := h2.cell (i := f) (v := .int .i64 (ls[f]?.getD 0)) (by simp [show f < ls.length by omega])
    rw [hx] at cq
    have fq := h2.frozen f
    have hne : p ≠ q := h1.ne h2 (by decide)
    have hne2 : q ≠ p := hne.symm
    have hnz : (((r.length : Int) + 1) == 0) = false := by simp; omega
    have H1 := hid h1
    have H2 := hid h2
    have H4 := hid h4
    have C0 : Hid (∀ w', Kp (· = q) w w' → w'.cell? ⟨p, 0, none⟩ = some (.slice (some ⟨q, 0, none⟩) R R)) := fun w' hk => hk.cell c0 hne
    simp only [List.length_cons] at hlen
    clear h1 h2 h3 h4 hls hx
    go_enter Try.func65, Try.ntmps65
    go_wp2_with fail
    refine (full_ring p q R (x :: r) true HB.out _ H.out).mono ?_
    rintro e w' ⟨rfl, m0, hw'⟩
    rw [hw']; clear hw' w'
    go_wp2
    go_quiet (fail)
    go_wp2
    refine wp_quiet_tail 10 (by kernel_rfl) (by kernel_rfl) ?_
    simp only [List.take_succ_cons, List.take_zero, List.drop_succ_cons, List.drop_zero]
    repeat (go_big_quiet_step (fail))
    refine wpQuiet_nil ?_
    intro m2
    go_wp2_with fail
    refine (next_ring p q R f _ (C0.out _ ((Kp.drewN _ _ _).trans' (Kp.setCell _ _ _ (fun _ => rfl)))) hfR hR).mono ?_
    rintro e w' ⟨rfl, hw'⟩
    rw [hw']; clear hw' w'
    go_wp2_with fail
    go_ret2
    refine ⟨rfl, ⟨hR, _, _, _, ?_, ?_, H4.out⟩, ((Kp.drewN _ _ _).trans' (Kp.setCell _ _ _ fun _ => .inr rfl)).trans' ((Kp.setCell _ _ _ fun _ => .inl rfl).trans' (Kp.setCell _ _ _ fun _ => .inl rfl))⟩
    · simpa using ((((H1.out.dN _).off q f (.int .i64 v) hne).set 1 (.int .i64 (ix R f 1 : Nat))).set 2 (.int .i64 (ix R f 1 : Nat)))
    · rw [List.map_set]
      exact ((((H2.out.dN _).set f (.int .i64 v)).off p 1 _ hne2).off p 2 _ hne2)

set_option maxHeartbeats 1000000 in
theorem new_ring (R : Nat) (hR : R ≤ 64) (w : World) :
    Calls Try.prog 45 #[.int .i64 R] w fun e w' => ∃ p q, e = .returned (.tuple #[.pointer (some ⟨p, 0, none⟩), .int .i64 0]) ∧ IsRing w' p q R [] ∧ w.heap.size ≤ p ∧ w.heap.size ≤ q ∧ Kp No w w' := by
  go_enter Try.func45, Try.ntmps45
  go_wp2_with (at_make; refine wpl_make rfl _ _ 55 rfl el55 .i64 .i64 R rfl rfl (by omega) (by omega) ?_; intro w1 hb1 hk1; have HB := hid hb1; have HK := hid hk1; have hs := hb1.lt; clear hb1 hk1)
  go_ret2
  have h1 : IsRing (w1.alloc (.cells #[Value.slice (some ⟨w.heap.size, 0, none⟩) R R, .int .i64 0, .int .i64 0, .int .i64 0] 119)) w1.heap.size w.heap.size R [] := by
    refine ⟨hR, List.replicate R 0, 0, 0, ?_, ?_, RingOK.new R⟩
    · simpa using Blk.new w1 119 [.slice (some ⟨w.heap.size, 0, none⟩) R R, .int .i64 0, .int .i64 0, .int .i64 0]
    · have := HB.out.kp' (Kp.alloc No w1 (.cells #[Value.slice (some ⟨w.heap.size, 0, none⟩) R R, .int .i64 0, .int .i64 0, .int .i64 0] 119))
      rw [reps_one] at this
      simpa using this
  first | exact ⟨w1.heap.size, w.heap.size, rfl, h1, by omega, Nat.le_refl _, HK.out.trans' (Kp.alloc _ _ _)⟩ | exact ⟨w1.heap.size, rfl, w.heap.size, h1, by omega, Nat.le_refl _, HK.out.trans' (Kp.alloc _ _ _)⟩

set_option maxHeartbeats 400000 in
theorem new_ring_no (n : Int) (hn : n < 0 ∨ 64 < n) (w : World) :
    Calls Try.prog 45 #[.int .i64 n] w fun e w' => e = .returned (.tuple #[.pointer none, .int .i64 1]) ∧ w' = w := by
  rcases (show n < 0 ∨ (0 ≤ n ∧ 64 < n) by omega) with h | ⟨h, h2⟩
  all_goals
    clear hn
    go_enter Try.func45, Try.ntmps45
    go_wp2
    go_ret2
    exact ⟨rfl, rfl⟩

set_option maxHeartbeats 1000000 in
theorem all_ring (p q R : Nat) (row : List Int) (w : World) (h : IsRing w p q R row) :
    Calls Try.prog 54 #[.pointer (some ⟨p, 0, none⟩)] w fun e w' => ∃ v, e = .returned v ∧ Row w' v row ∧ (∀ b, v.ownBlock = some b → w.heap.size ≤ b) ∧ Kp No w w' := by
  have H := hid h
  have hlen := h.len
  have hR := h.le
  obtain ⟨_, ls, f, t, h1, h2, h3⟩ := h
  have c0 := h1.cell (i := 0) rfl
  have c1 := h1.cell (i := 1) rfl
  have c3 := h1.cell (i := 3) rfl
  have C0 : Hid (∀ w', Kp No w w' → w'.cell? ⟨p, 0, none⟩ = some (.slice (some ⟨q, 0, none⟩) R R)) := fun w' hk => hk.cell c0 id
  have H2 := hid h2
  have H3 := hid h3
  clear h1 h2 h3
  go_enter Try.func54, Try.ntmps54
  go_wp2
  go_loopw [3, 4, 13] (fun v a i wr => ∃ (k : Nat), k ≤ row.length ∧ i = .int .i64 k ∧ (k < row.length → a = .int .i64 (ix R f k : Nat)) ∧ Row wr v (row.take k) ∧ (∀ b, v.ownBlock = some b → w.heap.size ≤ b) ∧ Kp No w wr) (fun _ _ i _ => row.length - (intOf i).toNat)
  case atStart => exact ⟨0, Nat.zero_le _, rfl, fun h => by rw [ix_zero (H3.out.lt (by omega)).1], Sl.nil _ _ _, (by simp [Value.ownBlock]), Kp.refl _ _⟩
  case round =>
    obtain ⟨k, hk, rfl, ha, hv, hb, hkp⟩ := hrel
    have HV := hid hv
    have HB := hid hb
    have HK := hid hkp
    clear hv hb hkp
    by_cases hlt : k < row.length
    · obtain rfl := ha hlt
      obtain ⟨hf, _, _⟩ := H3.out.lt (by omega)
      have hls := H3.out.len
      have hixl : ix R f k < R := ix_lt hf (by omega)
      have hat := H3.out.at_ k hlt
      have cw0 := C0.out _ HK.out
      have cq : wr.cell? ⟨q, ix R f k, none⟩ = some (.int .i64 (row[k]?.getD 0)) := HK.out.cell (H2.out.cell (by simp [show ix R f k < ls.length by omega, ← hat])) id
      have HN := hid (ix_next (i := k) hf (by omega))
      have ht : row.take (k + 1) = row.take k ++ [row[k]?.getD 0] := by rw [List.take_succ_eq_append_getElem hlt]; simp [hlt]
      have HT := hid ht
      clear ht
      have hlk : (row.take k).length = k := by simp; omega
      generalize row[k]?.getD 0 = x at *
      generalize hys : row.take k = ys at *
      clear ha hat hls hys c0 c1 c3
      generalize ix R f k = a at *
      go_wp2_with (at_builtin; refine wpl_append rfl (.tmp 15) (.tmp 23) 55 rfl el55 _ ys.length (ys.map (Value.int .i64)) rfl (Sl.kp (Kp.alloc No _ _) HV.out (fun _ _ => id)) (some ⟨wr.heap.size, 0, none⟩) 1 1 [.int .i64 x] rfl rfl (fun _ => ⟨_, rfl, cell_one_new _ _ _⟩) (by intro u hu; simp at hu; subst hu; rfl) (by unfold maxLen; omega) (by omega) (fun e => by cases e) ?_; intro v' w1 hv hk1 hm; have HV1 := hid hv; have HK1 := hid (HK.out.trans ((Kp.alloc _ wr _).trans' hk1) (by intro i hi he; have := HB.out i he; omega)); have HM := hid (moved_ge hm HB.out (by have := HK.out.size; simp; omega)); clear hv hk1 hm cw0 cq HV HK)
      refine (next_ring p q R a _ (C0.out _ HK1.out) hixl hR).mono ?_
      rintro e w' ⟨rfl, hw'⟩
      rw [hw']; clear hw' w'
      go_wp2_with fail
      go_roundw
      case rel => exact ⟨k + 1, by omega, by go_num, fun _ => by rw [HN.out], by rw [HT.out]; unfold Row; simpa using HV1.out, HM.out, HK1.out⟩
      case measure => simp [intOf]; omega
    · clear ha
      go_wp2
      go_ret
      refine ⟨_, rfl, ?_, HB.out, HK.out⟩
      have := HV.out
      rwa [List.take_of_length_le (by omega)] at this

end Go.Proofs.Ytijpdeanbkodkaa
