/-
  The walk of the law DiceDraws: it answers true at every list and every asks, and writes nothing that was there.
-/
import Derived.Test.YtijpdeanbkodkaaDice
namespace Go.Proofs.Ytijpdeanbkodkaa
open Go.RowKit

set_option maxRecDepth 100000 in
set_option maxHeartbeats 1000000 in
theorem draws_walk (a0 : Option Addr) (n0 c0 : Nat) (l : List Int) (a1 : Option Addr) (n1 c1 : Nat) (m : List Int) (w : World) (hl : Src w .u16 a0 n0 l) (hw : ∀ x ∈ l, 0 ≤ x ∧ x < 65536) (hm : Src w .i64 a1 n1 m) :
    Calls Try.prog 3 #[.slice a0 n0 c0, .slice a1 n1 c1] w fun e w' => e = .returned (.bool true) ∧ Kp No w w' := by
  have HL := hid hl
  have HM := hid hm
  have HW := hid hw
  obtain rfl := hl.1
  clear hl hm hw
  by_cases hlen : 300 < l.length
  · go_enter Try.func3, Try.ntmps3
    go_wp2_with (go_at_call 15; refine (alive_any _).mono ?_; rintro e w1 ⟨rfl, hk⟩)
    go_ret
    exact ⟨rfl, hk⟩
  by_cases hlen1 : 300 < n1
  · go_enter Try.func3, Try.ntmps3
    go_wp2_with (go_at_call 15; refine (alive_any _).mono ?_; rintro e w1 ⟨rfl, hk⟩)
    go_ret
    exact ⟨rfl, hk⟩
  go_enter Try.func3, Try.ntmps3
  go_wp2_with (go_at_call 15; refine (alive_any _).mono ?_; rintro e w1 ⟨rfl, hk⟩; have HK1 := hid hk; clear hk)
  refine (new_any a0 l.length c0 l w1 (HL.out.kp HK1.out (fun _ _ => id)) (by omega) HW.out).mono ?_
  rintro e w2 ⟨d, q, rfl, hd, hk2, hdg, hqg⟩
  have HD := hid hd
  have HK2 := hid (HK1.out.trans' hk2)
  have hs1 := HK1.out.size
  have hdB : w.heap.size ≤ d := by omega
  have hqB : w.heap.size ≤ q := by omega
  clear hd hk2 HK1 hdg hqg hs1
  go_wp2_with fail
  go_loopw [6, 27] (fun at_ i wr => ∃ (j : Nat) (k : Nat), j ≤ n1 ∧ k ≤ l.length ∧ i = .int .i64 j ∧ at_ = .int .i64 k ∧ IsDice wr d q l k ∧ Kp (fun b => w.heap.size ≤ b) w wr) (fun _ i _ => n1 - (intOf i).toNat)
  case atStart => exact ⟨0, 0, Nat.zero_le _, Nat.zero_le _, rfl, rfl, HD.out, HK2.out.mono (fun _ _ => False.elim)⟩
  case round =>
    obtain ⟨j, k, hj, hk, rfl, rfl, hdr, hkr⟩ := hrel
    clear HD HK2
    have HD := hid hdr
    have HK := hid hkr
    clear hdr hkr
    by_cases hlt : j < n1
    · obtain ⟨ad, rfl, hc⟩ := (HM.out.above (Nat.le_refl _) HK.out).cellN j hlt
      generalize m[j]?.getD 0 = x at *
      go_wp2_with (go_at_call 17; refine (refDraw_any a0 l.length c0 l k x _ (HL.out.above (Nat.le_refl _) HK.out) (by omega) HW.out hk).mono ?_; rintro e w' ⟨rfl, rfl⟩)
      refine (draw_any d q l k x _ HD.out).mono ?_
      rintro e w3 ⟨rfl, hd3, hk3⟩
      have HD3 := hid hd3
      have HK3 := hid (HK.out.trans hk3 (by intro i hi he; omega))
      clear hd3 hk3 hc
      have hkk : drawK l k x ≤ l.length := by exact HD3.out.le
      generalize drawK l k x = k' at *
      generalize drawX l k x = x' at *
      go_wp2_with (first | (go_at_call 19; refine (drawn_any d q l k' _ HD3.out).mono ?_; rintro e w' ⟨rfl, rfl⟩) | (go_at_call 20; refine (left_any d q l k' _ HD3.out).mono ?_; rintro e w' ⟨rfl, mm, rfl⟩))
      go_roundw
      case rel => exact ⟨j + 1, k', by omega, hkk, by go_num, rfl, HD3.out.kp (Kp.drewN No _ _) id id, HK3.out.trans' (Kp.drewN _ _ _)⟩
      case measure => simp [intOf]; omega
    · go_wp2
      go_ret
      exact ⟨rfl, HK.out.mono (by intro i hi he; simp [No]; omega)⟩
end Go.Proofs.Ytijpdeanbkodkaa
