/-
  The chapter's example of package queue, and whether there can be such queues.
-/
import Derived.Test.YtijpdeanbkodkaaQueueList
namespace Go.Proofs.Ytijpdeanbkodkaa
open Go.RowKit
set_option maxRecDepth 100000

theorem two_rows {a b : List Int} {x : Int} (ha : x ∉ a) (hb : x ∉ b) : ∀ (j : Nat) (l : List Int), [a, b][j]? = some l → x ∉ l := by
  intro j l h
  match j with
  | 0 => simp at h; rw [← h]; exact ha
  | 1 => simp at h; rw [← h]; exact hb
  | j + 2 => simp at h

theorem alive_rows : QOK 9 ((((((((List.replicate 9 ((0 : Int), (0 : Int), (-1 : Int))).set 4 (-1, -1, 1)).set 2 (4, -1, 1)).set 4 (-1, 2, 1)).set 7 (2, -1, 1)).set 2 (4, 7, 1)).set 4 (-1, 7, 1)).set 7 (4, -1, 1) |>.set 2 (4, 7, -1)) [(-1, -1, 0), (4, 7, 2)] [[], [4, 7]] := by
  have q0 : QOK 9 (List.replicate 9 (0, 0, -1)) (List.replicate 2 (-1, -1, 0)) [[], []] := QOK.new 9 2
  have q1 : QOK 9 _ _ [[], [4]] := q0.push_nil (k := 1) (x := 4) rfl (by decide) (by decide) (two_rows (by simp) (by simp))
  have q2 : QOK 9 _ _ [[], [4, 2]] := q1.push_snoc (k := 1) (l0 := []) (y := 4) (x := 2) rfl (by decide) (by decide) (two_rows (by simp) (by simp))
  have q3 : QOK 9 _ _ [[], [4, 2, 7]] := q2.push_snoc (k := 1) (l0 := [4]) (y := 2) (x := 7) rfl (by decide) (by decide) (two_rows (by simp) (by simp))
  exact q3.drop (k := 1) (p := [4]) (x := 2) (s := [7]) rfl

set_option maxHeartbeats 1000000 in
theorem alive_queue (w : World) : Calls Try.prog 66 #[] w fun e w' => e = .returned (.bool true) ∧ Kp No w w' := by
  go_enter Try.func66, Try.ntmps66
  go_wp2_with fail
  refine (newQ_any 9 2 (by omega) (by omega) _).mono ?_
  rintro e w1 ⟨p, tq, eq, rfl, hi, hp, ht, he, hk⟩
  have HI := hid hi
  have HK := hid hk
  clear hi hk
  go_wp2_with fail
  refine (push_nil_any p tq eq _ _ 1 4 (-1) 0 0 0 (by omega) rfl rfl _ HI.out).mono ?_
  rintro e w2 ⟨rfl, hi, hk⟩
  have HI2 := hid hi
  have HK2 := hid (HK.out.trans hk (by intro i hi he; rcases he with he | he <;> omega))
  clear hi hk HI HK
  go_wp2_with fail
  refine (push_snoc_any p tq eq _ _ 1 2 4 4 1 0 0 (-1) (-1) 1 (by omega) rfl rfl (by decide) rfl _ HI2.out).mono ?_
  rintro e w3 ⟨rfl, hi, hk⟩
  have HI3 := hid hi
  have HK3 := hid (HK2.out.trans hk (by intro i hi he; rcases he with he | he <;> omega))
  clear hi hk HI2 HK2
  go_wp2_with fail
  refine (push_snoc_any p tq eq _ _ 1 7 2 4 2 0 0 4 (-1) 1 (by omega) rfl rfl (by decide) rfl _ HI3.out).mono ?_
  rintro e w4 ⟨rfl, hi, hk⟩
  have HI4 := hid hi
  have HK4 := hid (HK3.out.trans hk (by intro i hi he; rcases he with he | he <;> omega))
  clear hi hk HI3 HK3
  go_wp2_with fail
  refine (drop_ab p tq eq _ _ 1 2 4 7 3 4 (-1) 2 1 rfl (by decide) 7 2 (-1) 1 rfl (by decide) (by decide) (by omega) rfl rfl _ HI4.out).mono ?_
  rintro e w5 ⟨rfl, hi, hk⟩
  have HI5 := hid hi
  have HK5 := hid (HK4.out.trans hk (by intro i hi he; rcases he with he | he <;> omega))
  clear hi hk HI4 HK4
  go_wp2_with fail
  refine (list_yes p tq eq 9 _ _ [[], [4, 7]] 1 [4, 7] alive_rows rfl (by simp) (by simp) _ HI5.out).mono ?_
  rintro e w6 ⟨v, rfl, hv, _, hk⟩
  have HV := hid hv
  have HK6 := hid (HK5.out.trans' hk)
  clear hv hk HI5 HK5
  go_wp2_with fail
  refine (same_to v _ [4, 7] _ (HV.out.kpN (Kp.alloc No _ _)) (Sl.of_blk (Blk.new w6 3 [.int .i64 4, .int .i64 7]) 1 2 rfl (by decide)) (by simp)).mono ?_
  rintro e w7 ⟨rfl, m, rfl⟩
  go_wp2_with fail
  go_ret
  exact ⟨rfl, HK6.out.trans' ((Kp.alloc _ _ _).trans' (Kp.drewN _ _ _))⟩

def canB (n m : Int) : Bool := decide (0 ≤ n ∧ n ≤ 64 ∧ 0 ≤ m ∧ m ≤ 64)
set_option maxHeartbeats 400000 in
theorem can06 (n m : Int) (b : Bool) (hb : canB n m = b) (w : World) :
    Calls Try.prog 68 #[.int .i64 n, .int .i64 m] w fun e w' => e = .returned (.bool b) ∧ w' = w := by
  subst hb
  unfold canB
  rcases (show n < 0 ∨ (0 ≤ n ∧ 64 < n) ∨ (0 ≤ n ∧ n ≤ 64 ∧ m < 0) ∨ (0 ≤ n ∧ n ≤ 64 ∧ 0 ≤ m ∧ 64 < m) ∨ (0 ≤ n ∧ n ≤ 64 ∧ 0 ≤ m ∧ m ≤ 64) by omega) with h1 | ⟨h1, h2⟩ | ⟨h1, h2, h3⟩ | ⟨h1, h2, h3, h4⟩ | ⟨h1, h2, h3, h4⟩
  · rw [decide_eq_false (by omega)]
    go_enter Try.func68, Try.ntmps68
    go_wp2
    go_ret
    exact ⟨by simp <;> omega, rfl⟩
  · rw [decide_eq_false (by omega)]
    go_enter Try.func68, Try.ntmps68
    go_wp2
    go_ret
    exact ⟨by simp <;> omega, rfl⟩
  · rw [decide_eq_false (by omega)]
    go_enter Try.func68, Try.ntmps68
    go_wp2
    go_ret
    exact ⟨by simp <;> omega, rfl⟩
  · rw [decide_eq_false (by omega)]
    go_enter Try.func68, Try.ntmps68
    go_wp2
    go_ret
    exact ⟨by simp <;> omega, rfl⟩
  · rw [decide_eq_true (by omega)]
    go_enter Try.func68, Try.ntmps68
    go_wp2
    go_ret
    exact ⟨by simp <;> omega, rfl⟩
end Go.Proofs.Ytijpdeanbkodkaa
