/-
  What queue's Push and Drop refuse.
-/
import Derived.Test.YtijpdeanbkodkaaQueue
namespace Go.Proofs.Ytijpdeanbkodkaa
open Go.RowKit
set_option maxRecDepth 100000

set_option maxHeartbeats 400000 in
theorem drop_no (p tq eq : Nat) (ties ends : List (Int × Int × Int)) (x : Int) (hx : x < 0 ∨ ties.length ≤ x ∨ ∃ a b, ties[x.toNat]? = some (a, b, -1)) (w : World) (h : IsQR w p tq eq ties ends) :
    Calls Try.prog 76 #[.pointer (some ⟨p, 0, none⟩), .int .i64 x] w fun e w' => e = .returned (.bool false) ∧ w' = w := by
  have H := hid h
  have HX := hid hx
  clear h hx
  go_enter Try.func76, Try.ntmps76
  go_wp2_with fail
  refine (in_no p tq eq ties ends x HX.out _ H.out).mono ?_
  rintro e w' ⟨rfl, hw'⟩
  rw [hw']; clear hw' w'
  go_wp2_with fail
  go_ret
  exact ⟨rfl, rfl⟩

set_option maxHeartbeats 400000 in
theorem push_no_in (p tq eq : Nat) (ties ends : List (Int × Int × Int)) (k : Int) (X : Nat) (a b : Int) (j : Nat) (ht : ties[X]? = some (a, b, (j : Int))) (w : World) (h : IsQR w p tq eq ties ends) :
    Calls Try.prog 72 #[.pointer (some ⟨p, 0, none⟩), .int .i64 k, .int .i64 X] w fun e w' => e = .returned (.bool false) ∧ w' = w := by
  have H := hid h
  have HT := hid ht
  clear h ht
  go_enter Try.func72, Try.ntmps72
  go_wp2_with fail
  refine (in_yes p tq eq ties ends X a b j HT.out _ H.out).mono ?_
  rintro e w' ⟨rfl, hw'⟩
  rw [hw']; clear hw' w'
  go_wp2_with fail
  go_ret
  exact ⟨rfl, rfl⟩

set_option maxHeartbeats 400000 in
theorem push_no_row (p tq eq : Nat) (ties ends : List (Int × Int × Int)) (k x : Int) (hx : x < 0 ∨ ties.length ≤ x ∨ ∃ a b, ties[x.toNat]? = some (a, b, -1)) (hk : k < 0 ∨ ends.length ≤ k) (w : World) (h : IsQR w p tq eq ties ends) :
    Calls Try.prog 72 #[.pointer (some ⟨p, 0, none⟩), .int .i64 k, .int .i64 x] w fun e w' => e = .returned (.bool false) ∧ w' = w := by
  have H := hid h
  have HX := hid hx
  have HB := hid (show decide (0 ≤ k ∧ k < ends.length) = false by simp; omega)
  clear h hx hk
  go_enter Try.func72, Try.ntmps72
  go_wp2_with fail
  refine (in_no p tq eq ties ends x HX.out _ H.out).mono ?_
  rintro e w' ⟨rfl, hw'⟩
  rw [hw']; clear hw' w'
  go_wp2_with fail
  refine (has_any p tq eq ties ends k false HB.out _ H.out).mono ?_
  rintro e w' ⟨rfl, hw'⟩
  rw [hw']; clear hw' w'
  go_wp2_with fail
  go_ret
  exact ⟨rfl, rfl⟩

set_option maxHeartbeats 400000 in
theorem push_no_thing (p tq eq : Nat) (ties ends : List (Int × Int × Int)) (k x : Int) (hx : x < 0 ∨ ties.length ≤ x) (hk : 0 ≤ k ∧ k < ends.length) (w : World) (h : IsQR w p tq eq ties ends) :
    Calls Try.prog 72 #[.pointer (some ⟨p, 0, none⟩), .int .i64 k, .int .i64 x] w fun e w' => e = .returned (.bool false) ∧ w' = w := by
  have H := hid h
  have HX := hid (show x < 0 ∨ ties.length ≤ x ∨ ∃ a b, ties[x.toNat]? = some (a, b, -1) from hx.elim .inl fun h => .inr (.inl h))
  have HB := hid (show decide (0 ≤ k ∧ k < ends.length) = true by simp; omega)
  have c0 := h.head.cell (i := 0) rfl
  have hlt := h.lt
  clear h hk
  rcases (show x < 0 ∨ (0 ≤ x ∧ ties.length ≤ x) by omega) with h1 | ⟨h1, h2⟩
  all_goals
    clear hx
    go_enter Try.func72, Try.ntmps72
    go_wp2_with fail
    refine (in_no p tq eq ties ends x HX.out _ H.out).mono ?_
    rintro e w' ⟨rfl, hw'⟩
    rw [hw']; clear hw' w'
    go_wp2_with fail
    refine (has_any p tq eq ties ends k true HB.out _ H.out).mono ?_
    rintro e w' ⟨rfl, hw'⟩
    rw [hw']; clear hw' w'
    go_wp2_with fail
    go_ret
    exact ⟨rfl, rfl⟩
end Go.Proofs.Ytijpdeanbkodkaa
