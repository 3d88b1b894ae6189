/-
  The ring that is made of a list, and the chapter's example.
-/
import Derived.Test.YtijpdeanbkodkaaRef04
namespace Go.Proofs.Ytijpdeanbkodkaa
open Go.RowKit
set_option maxRecDepth 100000

set_option maxHeartbeats 1000000 in
theorem of_ring_no (n : Int) (a : Option Addr) (c : Nat) (l : List Int) (hn : n < 0 ∨ 64 < n ∨ n < l.length) (w : World) :
    Calls Try.prog 51 #[.int .i64 n, .slice a l.length c] w fun e w' => e = .returned (.tuple #[.pointer none, .int .i64 1]) ∧ Kp No w w' := by
  by_cases h0 : n < 0 ∨ 64 < n
  · go_enter Try.func51, Try.ntmps51
    go_wp2_with (go_at_call 45; refine (new_ring_no n h0 _).mono ?_; rintro e w' ⟨rfl, hw'⟩; rw [hw']; clear hw')
    go_ret2
    exact ⟨rfl, Kp.refl _ _⟩
  · have h1 : 0 ≤ n := by omega
    have h2 : n ≤ 64 := by omega
    have h3 : n < l.length := by omega
    obtain ⟨R, rfl⟩ := Int.eq_ofNat_of_zero_le h1
    clear hn h0
    go_enter Try.func51, Try.ntmps51
    go_wp2_with (go_at_call 45; refine (new_ring R (by omega) _).mono ?_; rintro e w1 ⟨p, q, rfl, hi, hp, hq, hk⟩; have HK := hid hk; clear hk hi)
    go_ret2
    exact ⟨rfl, HK.out⟩

set_option maxHeartbeats 1000000 in
theorem of_ring (R : Nat) (hR : R ≤ 64) (a : Option Addr) (c : Nat) (l : List Int) (hlR : l.length ≤ R) (w : World) (h : Src w .i64 a l.length l) :
    Calls Try.prog 51 #[.int .i64 R, .slice a l.length c] w fun e w' => ∃ p q, e = .returned (.tuple #[.pointer (some ⟨p, 0, none⟩), .int .i64 0]) ∧ IsRing w' p q R l ∧ w.heap.size ≤ p ∧ w.heap.size ≤ q ∧ Kp No w w' := by
  have HL := hid h
  have hq : decide (R < l.length) = false := by simp; omega
  have hq2 : decide ((R : Int) < (l.length : Int)) = false := by simp; omega
  clear h
  go_enter Try.func51, Try.ntmps51
  go_wp2_with (go_at_call 45; refine (new_ring R hR _).mono ?_; rintro e w1 ⟨p, q, rfl, hi, hp, hq, hk⟩; have HI := hid hi; have HK := hid hk; clear hk hi)
  go_loopw [25] (fun i wr => ∃ (k : Nat), k ≤ l.length ∧ i = .int .i64 k ∧ IsRing wr p q R (l.take k) ∧ Kp No w wr) (fun i _ => l.length - (intOf i).toNat)
  case atStart => exact ⟨0, Nat.zero_le _, rfl, HI.out, HK.out⟩
  case round =>
    clear HI HK
    obtain ⟨k, hk, rfl, hi, hkp⟩ := hrel
    have HI := hid hi
    have HK := hid hkp
    clear hi hkp
    by_cases hlt : k < l.length
    · obtain ⟨ad, rfl, hc0⟩ := HL.out.cellN k hlt
      have hc := HK.out.cell hc0 id
      have ht : l.take (k + 1) = l.take k ++ [l[k]?.getD 0] := by rw [List.take_succ_eq_append_getElem hlt]; simp [hlt]
      have hpr : putR R (l.take k) (l[k]?.getD 0) = (l.take k ++ [l[k]?.getD 0], true) := by unfold putR; rw [if_pos (by simp; omega)]
      have HT := hid ht
      have HP := hid hpr
      clear hc0 ht hpr
      generalize l[k]?.getD 0 = x at *
      go_wp2_with (go_at_call 46; refine (put_any p q R _ x _ _ HP.out _ HI.out).mono ?_; rintro e w1 ⟨rfl, hi, hk1⟩; have HI1 := hid hi; have HK1 := hid (HK.out.trans hk1 (by intro i hi he; rcases he with he | he <;> omega)); clear hi hk1)
      go_roundw
      case rel => exact ⟨k + 1, by omega, by go_num, by rw [HT.out]; exact HI1.out, HK1.out⟩
      case measure => simp [intOf]; omega
    · have he : l.take k = l := List.take_of_length_le (by omega)
      rw [he] at HI
      clear he
      go_wp2
      go_ret2
      first | exact ⟨p, q, rfl, HI.out, hp, hq, HK.out⟩ | exact ⟨p, rfl, q, HI.out, hp, hq, HK.out⟩

set_option maxHeartbeats 1000000 in
theorem alive_ring (w : World) : Calls Try.prog 44 #[] w fun e w' => e = .returned (.bool true) ∧ Kp No w w' := by
  go_enter Try.func44, Try.ntmps44
  go_wp2_with fail
  refine (new_ring 2 (by omega) _).mono ?_
  rintro e w1 ⟨p, q, rfl, hi, hp, hq, hk⟩
  have HI := hid hi
  have HK := hid hk
  clear hi hk
  go_wp2_with fail
  refine (put_any p q 2 [] 5 [5] true rfl _ HI.out).mono ?_
  rintro e w2 ⟨rfl, hi, hk⟩
  have HI2 := hid hi
  have HK2 := hid (HK.out.trans hk (by intro i hi he; rcases he with he | he <;> omega))
  clear hi hk HI HK
  go_wp2_with fail
  refine (put_any p q 2 [5] 6 [5, 6] true rfl _ HI2.out).mono ?_
  rintro e w3 ⟨rfl, hi, hk⟩
  have HI := hid hi
  have HK := hid (HK2.out.trans hk (by intro i hi he; rcases he with he | he <;> omega))
  clear hi hk HI2 HK2
  go_wp2_with fail
  refine (pass_any p q 2 [5, 6] 7 [6, 7] 5 true rfl _ HI.out).mono ?_
  rintro e w4 ⟨rfl, hi, hk⟩
  have HI2 := hid hi
  have HK2 := hid (HK.out.trans hk (by intro i hi he; rcases he with he | he <;> omega))
  clear hi hk HI HK
  go_wp2_with fail
  refine (all_ring p q 2 [6, 7] _ HI2.out).mono ?_
  rintro e w5 ⟨v, rfl, hv, _, hk⟩
  have HV := hid hv
  have HK := hid (HK2.out.trans' hk)
  clear hv hk HI2 HK2
  go_wp2_with fail
  refine (same04_rows v _ [6, 7] _ (HV.out.kpN (Kp.alloc No _ _)) (Sl.of_blk (Blk.new w5 2 [.int .i64 6, .int .i64 7]) 1 2 rfl (by decide)) (by simp)).mono ?_
  rintro e w6 ⟨rfl, m, rfl⟩
  go_wp2_with fail
  go_ret
  exact ⟨rfl, HK.out.trans' ((Kp.alloc _ _ _).trans' (Kp.drewN _ _ _))⟩
end Go.Proofs.Ytijpdeanbkodkaa
