/-
  The walk of the law QueueNew.
-/
import Derived.Test.YtijpdeanbkodkaaQueueAlive
namespace Go.Proofs.Ytijpdeanbkodkaa
open Go.RowKit
set_option maxRecDepth 100000

set_option maxHeartbeats 2000000 in
theorem queueNew_walk (n m : Int) (w : World) (_ : (Lit.int .i64 n).wf = true) (_ : (Lit.int .i64 m).wf = true) :
    Calls Try.prog 12 #[.int .i64 n, .int .i64 m] w fun e w' => e = .returned (.bool true) ∧ Kp No w w' := by
  by_cases hb : n < 0 ∨ 64 < n ∨ m < 0 ∨ 64 < m
  · have HN := hid hb
    have HC := hid (show canB n m = false by unfold canB; simp; omega)
    clear hb
    go_enter Try.func12, Try.ntmps12
    go_wp2_with fail
    refine (alive_queue _).mono ?_
    rintro e w1 ⟨rfl, hk⟩
    have HK := hid hk
    clear hk
    go_wp2_with fail
    refine (newQ_no n m HN.out _).mono ?_
    rintro e w' ⟨rfl, hw'⟩
    rw [hw']; clear hw' w'
    go_wp2_with fail
    refine (can06 n m false HC.out _).mono ?_
    rintro e w' ⟨rfl, hw'⟩
    rw [hw']; clear hw' w'
    go_wp2_with fail
    go_ret
    exact ⟨rfl, HK.out⟩
  · obtain ⟨N, rfl⟩ := Int.eq_ofNat_of_zero_le (show 0 ≤ n by omega)
    obtain ⟨M, rfl⟩ := Int.eq_ofNat_of_zero_le (show 0 ≤ m by omega)
    have hN : N ≤ 64 := by omega
    have hM : M ≤ 64 := by omega
    have HC := hid (show canB N M = true by unfold canB; simp; omega)
    clear hb
    have lenQ : ∀ (p tq eq : Nat) (w : World), IsQR w p tq eq (List.replicate N (0, 0, -1)) (List.replicate M (-1, -1, 0)) → Calls Try.prog 69 #[.pointer (some ⟨p, 0, none⟩), .int .i64 0] w fun e w' => e = .returned (.int .i64 0) ∧ w' = w := by
      intro p tq eq w h
      by_cases h0 : M = 0
      · exact lenQ_no p tq eq _ _ 0 (by simp; omega) w h
      · exact lenQ_yes p tq eq _ _ 0 (-1) (-1) 0 (by rw [List.getElem?_replicate, if_pos (by omega)]) w h
    have listQ : ∀ (p tq eq : Nat) (w : World), IsQR w p tq eq (List.replicate N (0, 0, -1)) (List.replicate M (-1, -1, 0)) → Calls Try.prog 70 #[.pointer (some ⟨p, 0, none⟩), .int .i64 0] w fun e w' => e = .returned (.slice none 0 0) ∧ w' = w := by
      intro p tq eq w h
      by_cases h0 : M = 0
      · exact list_no p tq eq _ _ 0 (by simp; omega) w h
      · exact list_no p tq eq _ _ 0 (.inr (.inr ⟨-1, -1, by show (List.replicate M ((-1 : Int), (-1 : Int), (0 : Int)))[0]? = _; rw [List.getElem?_replicate, if_pos (by omega)]⟩)) w h
    have HLQ := hid lenQ
    have HIQ := hid listQ
    clear lenQ listQ
    go_enter Try.func12, Try.ntmps12
    go_wp2_with fail
    refine (alive_queue _).mono ?_
    rintro e w1 ⟨rfl, hk⟩
    have HK := hid hk
    clear hk
    go_wp2_with fail
    refine (newQ_any N M hN hM _).mono ?_
    rintro e w2 ⟨p, tq, eq, rfl, hi, _, _, _, hk⟩
    have HI := hid hi
    have HK2 := hid (HK.out.trans' hk)
    clear hi hk HK
    go_wp2_with fail
    refine (can06 N M true HC.out _).mono ?_
    rintro e w' ⟨rfl, hw'⟩
    rw [hw']; clear hw' w'
    go_wp2_with fail
    refine (HLQ.out p tq eq _ HI.out).mono ?_
    rintro e w' ⟨rfl, hw'⟩
    rw [hw']; clear hw' w'
    go_wp2_with fail
    refine (HIQ.out p tq eq _ HI.out).mono ?_
    rintro e w' ⟨rfl, hw'⟩
    rw [hw']; clear hw' w'
    go_wp2_with fail
    go_ret
    exact ⟨rfl, HK2.out⟩
end Go.Proofs.Ytijpdeanbkodkaa
