/-
  The walk of the law RingNew.
-/
import Derived.Test.YtijpdeanbkodkaaRingOf
import Derived.Test.YtijpdeanbkodkaaRead
namespace Go.Proofs.Ytijpdeanbkodkaa
open Go.RowKit
set_option maxRecDepth 100000

set_option maxHeartbeats 4000000 in
theorem ringNew_walk (n : Int) (a1 : Option Addr) (n1 c1 : Nat) (l : List Int) (w : World) (_ : (Lit.int .i64 n).wf = true) (hl : SrcW .i64 w a1 n1 l) (_ : a1 = none → c1 = 0) :
    Calls Try.prog 9 #[.int .i64 n, .slice a1 n1 c1] w fun e w' => e = .returned (.bool true) ∧ Kp No w w' := by
  have HL := hid hl.1
  obtain rfl := hl.1.1
  clear hl
  by_cases hlen : 100 < l.length
  · go_enter Try.func9, Try.ntmps9
    go_wp2_with (go_at_call 44; refine (alive_ring _).mono ?_; rintro e w1 ⟨rfl, hk⟩; have HK := hid hk; clear hk)
    go_ret
    exact ⟨rfl, HK.out⟩
  by_cases hn : n < 0 ∨ 64 < n
  · have HN := hid hn
    have hn2 : n < 0 ∨ 64 < n ∨ n < l.length := by omega
    have HN2 := hid hn2
    have h1 : rightB n 0 = false := by unfold rightB; simp; omega
    have h2 : rightB n l.length = false := by unfold rightB; simp; omega
    have H1 := hid h1
    have H2 := hid h2
    clear hn hn2 h1 h2
    go_enter Try.func9, Try.ntmps9
    go_wp2_with fail
    refine (alive_ring _).mono ?_
    rintro e w1 ⟨rfl, hk⟩
    have HK := hid hk
    clear hk
    go_wp2_with fail
    refine (new_ring_no n HN.out _).mono ?_
    rintro e w' ⟨rfl, hw'⟩
    rw [hw']; clear hw' w'
    go_wp2_with fail
    refine (of_ring_no n a1 c1 l HN2.out _).mono ?_
    rintro e w2 ⟨rfl, hk⟩
    have HK2 := hid (HK.out.trans' hk)
    clear hk HK
    go_wp2_with fail
    refine (right04 n 0 false H1.out _).mono ?_
    rintro e w' ⟨rfl, hw'⟩
    rw [hw']; clear hw' w'
    go_wp2_with fail
    refine (right04 n 0 false H1.out _).mono ?_
    rintro e w' ⟨rfl, hw'⟩
    rw [hw']; clear hw' w'
    go_wp2_with fail
    refine (right04 n l.length false H2.out _).mono ?_
    rintro e w' ⟨rfl, hw'⟩
    rw [hw']; clear hw' w'
    go_wp2_with fail
    go_ret
    exact ⟨rfl, HK2.out⟩
  obtain ⟨R, rfl⟩ := Int.eq_ofNat_of_zero_le (show 0 ≤ n by omega)
  have hR : R ≤ 64 := by omega
  have h1 : rightB R 0 = true := by unfold rightB; simp; omega
  have H1 := hid h1
  have hb : ((([] : List Int).length : Int) == (R : Int)) = ((R : Int) == 0) := by simp only [List.length_nil]; exact Bool.beq_comm
  have HB := hid hb
  clear hn h1 hb
  by_cases hlR : l.length ≤ R
  · have h2 : rightB R l.length = true := by unfold rightB; simp; omega
    have H2 := hid h2
    clear h2
    go_enter Try.func9, Try.ntmps9
    go_wp2_with fail
    refine (alive_ring _).mono ?_
    rintro e w1 ⟨rfl, hk⟩
    have HK := hid hk
    clear hk
    go_wp2_with fail
    refine (new_ring R hR _).mono ?_
    rintro e w2 ⟨p, q, rfl, hi, _, _, hk⟩
    have HI := hid hi
    have HK2 := hid (HK.out.trans' hk)
    clear hk HK hi
    go_wp2_with fail
    refine (of_ring R hR a1 c1 l hlR _ (HL.out.kp HK2.out (fun _ _ => id))).mono ?_
    rintro e w3 ⟨p2, q2, rfl, hi2, _, _, hk⟩
    have HI2 := hid hi2
    have HI1 := hid (HI.out.kpN hk)
    have HK3 := hid (HK2.out.trans' hk)
    clear hk HK2 hi2 HI
    go_wp2_with fail
    refine (right04 R 0 true H1.out _).mono ?_
    rintro e w' ⟨rfl, hw'⟩
    rw [hw']; clear hw' w'
    go_wp2_with fail
    refine (right04 R 0 true H1.out _).mono ?_
    rintro e w' ⟨rfl, hw'⟩
    rw [hw']; clear hw' w'
    go_wp2_with fail
    refine (room_ring p q R [] _ HI1.out).mono ?_
    rintro e w' ⟨rfl, hw'⟩
    rw [hw']; clear hw' w'
    go_wp2_with fail
    refine (len_ring p q R [] _ HI1.out).mono ?_
    rintro e w' ⟨rfl, hw'⟩
    rw [hw']; clear hw' w'
    go_wp2_with fail
    refine (full_ring p q R [] _ HB.out _ HI1.out).mono ?_
    rintro e w' ⟨rfl, m, hw'⟩
    rw [hw']; clear hw' w'
    go_wp2_with fail
    refine (right04 R l.length true H2.out _).mono ?_
    rintro e w' ⟨rfl, hw'⟩
    rw [hw']; clear hw' w'
    go_wp2_with fail
    refine (all_ring p2 q2 R l _ (HI2.out.kpN (Kp.drewN _ _ _))).mono ?_
    rintro e w5 ⟨v, rfl, hv, _, hk⟩
    have HI5 := hid (HI2.out.kpN ((Kp.drewN _ _ m).trans' hk))
    have HK5 := hid (HK3.out.trans' ((Kp.drewN _ _ m).trans' hk))
    obtain ⟨so, c, rfl, hs⟩ := hv.src
    have HS := hid hs
    clear hv hk HK3 HI2 hs HI1
    go_wp2_with fail
    refine (same04 so c a1 c1 l l _ HS.out (HL.out.kp HK5.out (fun _ _ => id)) (by omega) (by omega)).mono ?_
    rintro e w6 ⟨rfl, m2, hw6⟩
    rw [hw6, decide_eq_true rfl]; clear hw6 w6
    go_wp2_with fail
    refine (room_ring p2 q2 R l _ (HI5.out.kpN (Kp.drewN _ _ _))).mono ?_
    rintro e w' ⟨rfl, hw'⟩
    rw [hw']; clear hw' w'
    go_wp2_with fail
    go_ret
    exact ⟨by simp, HK5.out.trans' (Kp.drewN _ _ _)⟩
  · have h2 : rightB R l.length = false := by unfold rightB; simp; omega
    have H2 := hid h2
    clear h2
    go_enter Try.func9, Try.ntmps9
    go_wp2_with fail
    refine (alive_ring _).mono ?_
    rintro e w1 ⟨rfl, hk⟩
    have HK := hid hk
    clear hk
    go_wp2_with fail
    refine (new_ring R hR _).mono ?_
    rintro e w2 ⟨p, q, rfl, hi, _, _, hk⟩
    have HI := hid hi
    have HK2 := hid (HK.out.trans' hk)
    clear hk HK hi
    go_wp2_with fail
    refine (of_ring_no R a1 c1 l (by omega) _).mono ?_
    rintro e w3 ⟨rfl, hk⟩
    have HI1 := hid (HI.out.kpN hk)
    have HK3 := hid (HK2.out.trans' hk)
    clear hk HK2 HI
    go_wp2_with fail
    refine (right04 R 0 true H1.out _).mono ?_
    rintro e w' ⟨rfl, hw'⟩
    rw [hw']; clear hw' w'
    go_wp2_with fail
    refine (right04 R 0 true H1.out _).mono ?_
    rintro e w' ⟨rfl, hw'⟩
    rw [hw']; clear hw' w'
    go_wp2_with fail
    refine (room_ring p q R [] _ HI1.out).mono ?_
    rintro e w' ⟨rfl, hw'⟩
    rw [hw']; clear hw' w'
    go_wp2_with fail
    refine (len_ring p q R [] _ HI1.out).mono ?_
    rintro e w' ⟨rfl, hw'⟩
    rw [hw']; clear hw' w'
    go_wp2_with fail
    refine (full_ring p q R [] _ HB.out _ HI1.out).mono ?_
    rintro e w' ⟨rfl, m, hw'⟩
    rw [hw']; clear hw' w'
    go_wp2_with fail
    refine (right04 R l.length false H2.out _).mono ?_
    rintro e w' ⟨rfl, hw'⟩
    rw [hw']; clear hw' w'
    go_wp2_with fail
    go_ret
    exact ⟨rfl, HK3.out.trans' (Kp.drewN _ _ _)⟩
end Go.Proofs.Ytijpdeanbkodkaa
