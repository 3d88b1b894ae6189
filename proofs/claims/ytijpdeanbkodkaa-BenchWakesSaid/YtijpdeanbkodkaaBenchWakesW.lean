/-
  The walk of the law BenchWakes.
-/
import Derived.Test.YtijpdeanbkodkaaBench
import Derived.Test.YtijpdeanbkodkaaRead
namespace Go.Proofs.Ytijpdeanbkodkaa
open Go.RowKit
set_option maxRecDepth 100000

set_option maxHeartbeats 4000000 in
theorem wakes_walk (a0 : Option Addr) (n0 c0 : Nat) (l : List Bool) (w : World) (hl : Bools w a0 n0 l) (_ : a0 = none → c0 = 0) :
    Calls Try.prog 7 #[.slice a0 n0 c0] w fun e w' => e = .returned (.bool true) ∧ Kp No w w' := by
  have HL := hid hl
  obtain rfl := hl.1
  clear hl
  by_cases hlen : 200 < l.length
  · go_enter Try.func7, Try.ntmps7
    go_wp2_with (first | (go_at_call 36; refine (alive_bench _).mono ?_; rintro e w1 ⟨rfl, hk⟩; have HK := hid hk; clear hk) | (go_at_call 37; refine (new_bench 1 _).mono ?_; rintro e w2 ⟨p, q, rfl, hi, hp, hq, hk⟩; have HK2 := hid (HK.out.trans' hk); clear hk hi))
    go_ret
    exact ⟨by simp, HK2.out⟩
  go_enter Try.func7, Try.ntmps7
  go_wp2_with fail
  refine (alive_bench _).mono ?_
  rintro e w1 ⟨rfl, hk1⟩
  have hs1 := hk1.size
  go_wp2_with fail
  refine (new_bench 1 _).mono ?_
  rintro e w2 ⟨p, q, rfl, hi, hp, hq, hk⟩
  have HI : Hid (IsBench w2 p q [(0, false)]) := hid (show IsBench w2 p q [(0, false)] from hi)
  have HK : Hid (Kp No w w2) := hid (hk1.trans' hk)
  have hpB : w.heap.size ≤ p := by omega
  have hqB : w.heap.size ≤ q := by omega
  clear hi hk hk1 hs1 hp hq
  go_wp2_with fail
  go_loopw [21] (fun i wr => ∃ (k : Nat), k ≤ l.length ∧ i = .int .i64 k ∧ IsBench wr p q [(0, false)] ∧ Kp No w wr) (fun i _ => l.length - (intOf i).toNat)
  case atStart => exact ⟨0, Nat.zero_le _, rfl, HI.out, HK.out⟩
  case round =>
    clear HI HK
    obtain ⟨k, hk, rfl, hi, hkp⟩ := hrel
    have HI := hid hi
    have HK := hid hkp
    clear hi hkp
    by_cases hlt : k < l.length
    · obtain ⟨b, o, rfl, hc⟩ := HL.out.2 (by omega)
      have hc0 := HK.out.cell (hc k l[k] (by simp [hlt])) id
      clear hc
      cases hb : l[k] with
      | true =>
        rw [hb] at hc0
        clear hb
        go_wp2_with fail
        refine (ready_any p q [(0, false)] 0 [(0, true)] true rfl _ HI.out).mono ?_
        rintro e w' ⟨rfl, hi, hk⟩
        replace HI := hid hi
        replace HK := hid (HK.out.trans hk (by intro i hi he; omega))
        clear hi hk
        clear hc0
        go_wp2_with fail
        refine (ready_any p q [(0, true)] 0 [(0, true)] false rfl _ HI.out).mono ?_
        rintro e w' ⟨rfl, hi, hk⟩
        replace HI := hid hi
        replace HK := hid (HK.out.trans hk (by intro i hi he; omega))
        clear hi hk
        go_wp2_with fail
        refine (park_any p q [(0, true)] 0 [(0, false)] false rfl _ HI.out).mono ?_
        rintro e w' ⟨rfl, hi, hk⟩
        replace HI := hid hi
        replace HK := hid (HK.out.trans hk (by intro i hi he; omega))
        clear hi hk
        go_wp2_with fail
        refine (status_any p q [(0, false)] 0 0 rfl _ HI.out).mono ?_
        rintro e w' ⟨rfl, hw'⟩
        rw [hw']; clear hw' w'
        go_wp2_with fail
        refine (token_any p q [(0, false)] 0 false rfl _ HI.out).mono ?_
        rintro e w' ⟨rfl, hw'⟩
        rw [hw']; clear hw' w'
        go_wp2_with fail
        refine (running_any p q [(0, false)] _ HI.out).mono ?_
        rintro e w' ⟨v, rfl, hv, _, hk⟩
        have hv' : Ints w' v [0] := hv
        obtain ⟨so, cap, rfl, _, _⟩ := Sl.form hv'
        replace HI := hid (HI.out.kpN hk)
        replace HK := hid (HK.out.trans' hk)
        clear hv hv' hk
        go_wp2_with fail
        go_roundw
        case rel => exact ⟨k + 1, by omega, by go_num, HI.out, HK.out⟩
        case measure => simp [intOf]; omega
      | false =>
        rw [hb] at hc0
        clear hb
        go_wp2_with fail
        refine (park_any p q [(0, false)] 0 [(1, false)] true rfl _ HI.out).mono ?_
        rintro e w' ⟨rfl, hi, hk⟩
        replace HI := hid hi
        replace HK := hid (HK.out.trans hk (by intro i hi he; omega))
        clear hi hk
        clear hc0
        go_wp2_with fail
        refine (park_any p q [(1, false)] 0 [(1, false)] false rfl _ HI.out).mono ?_
        rintro e w' ⟨rfl, hi, hk⟩
        replace HI := hid hi
        replace HK := hid (HK.out.trans hk (by intro i hi he; omega))
        clear hi hk
        go_wp2_with fail
        refine (end_any p q [(1, false)] 0 [(1, false)] false rfl _ HI.out).mono ?_
        rintro e w' ⟨rfl, hi, hk⟩
        replace HI := hid hi
        replace HK := hid (HK.out.trans hk (by intro i hi he; omega))
        clear hi hk
        go_wp2_with fail
        refine (running_any p q [(1, false)] _ HI.out).mono ?_
        rintro e w' ⟨v, rfl, hv, _, hk⟩
        have hv' : Ints w' v [] := hv
        obtain ⟨so, cap, rfl, _, _⟩ := Sl.form hv'
        replace HI := hid (HI.out.kpN hk)
        replace HK := hid (HK.out.trans' hk)
        clear hv hv' hk
        go_wp2_with fail
        refine (ready_any p q [(1, false)] 0 [(0, false)] true rfl _ HI.out).mono ?_
        rintro e w' ⟨rfl, hi, hk⟩
        replace HI := hid hi
        replace HK := hid (HK.out.trans hk (by intro i hi he; omega))
        clear hi hk
        go_wp2_with fail
        refine (status_any p q [(0, false)] 0 0 rfl _ HI.out).mono ?_
        rintro e w' ⟨rfl, hw'⟩
        rw [hw']; clear hw' w'
        go_wp2_with fail
        refine (token_any p q [(0, false)] 0 false rfl _ HI.out).mono ?_
        rintro e w' ⟨rfl, hw'⟩
        rw [hw']; clear hw' w'
        go_wp2_with fail
        refine (running_any p q [(0, false)] _ HI.out).mono ?_
        rintro e w' ⟨v, rfl, hv, _, hk⟩
        have hv' : Ints w' v [0] := hv
        obtain ⟨so, cap, rfl, _, _⟩ := Sl.form hv'
        replace HI := hid (HI.out.kpN hk)
        replace HK := hid (HK.out.trans' hk)
        clear hv hv' hk
        go_wp2_with fail
        go_roundw
        case rel => exact ⟨k + 1, by omega, by go_num, HI.out, HK.out⟩
        case measure => simp [intOf]; omega
    · go_wp2_with fail
      clear hlt
      go_wp2_with fail
      refine (end_any p q [(0, false)] 0 [(2, false)] true rfl _ HI.out).mono ?_
      rintro e w' ⟨rfl, hi, hk⟩
      replace HI := hid hi
      replace HK := hid (HK.out.trans hk (by intro i hi he; omega))
      clear hi hk
      go_wp2_with fail
      refine (ready_any p q [(2, false)] 0 [(2, false)] false rfl _ HI.out).mono ?_
      rintro e w' ⟨rfl, hi, hk⟩
      replace HI := hid hi
      replace HK := hid (HK.out.trans hk (by intro i hi he; omega))
      clear hi hk
      go_wp2_with fail
      refine (park_any p q [(2, false)] 0 [(2, false)] false rfl _ HI.out).mono ?_
      rintro e w' ⟨rfl, hi, hk⟩
      replace HI := hid hi
      replace HK := hid (HK.out.trans hk (by intro i hi he; omega))
      clear hi hk
      go_wp2_with fail
      refine (status_any p q [(2, false)] 0 2 rfl _ HI.out).mono ?_
      rintro e w' ⟨rfl, hw'⟩
      rw [hw']; clear hw' w'
      go_wp2_with fail
      go_ret
      exact ⟨rfl, HK.out⟩
end Go.Proofs.Ytijpdeanbkodkaa
