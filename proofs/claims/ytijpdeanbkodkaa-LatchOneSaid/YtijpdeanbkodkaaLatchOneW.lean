/-
  The walk of the law LatchOne.
-/
import Derived.Test.YtijpdeanbkodkaaLatch
import Derived.Test.YtijpdeanbkodkaaRead
namespace Go.Proofs.Ytijpdeanbkodkaa
open Go.RowKit
set_option maxRecDepth 100000

set_option maxHeartbeats 1000000 in
theorem one_walk (a0 : Option Addr) (n0 c0 : Nat) (l : List (Int × Int × Int)) (w : World) (hl : Acts w a0 n0 l) (_ : a0 = none → c0 = 0) :
    Calls Try.prog 5 #[.slice a0 n0 c0] w fun e w' => e = .returned (.bool true) ∧ Kp No w w' := by
  have HL := hid hl
  obtain rfl := hl.1
  clear hl
  by_cases hlen : 100 < l.length
  · go_enter Try.func5, Try.ntmps5
    go_wp2_with (first | (go_at_call 22; refine (alive_latch _).mono ?_; rintro e w1 ⟨rfl, hk⟩; have HK := hid hk; clear hk) | (go_at_call 23; refine (new_latch 6 _).mono ?_; rintro e w2 ⟨p, v, rfl, hi, hp, hv, hk⟩; have HK2 := hid (HK.out.trans' hk); clear hk hi hv))
    go_ret
    exact ⟨rfl, HK2.out⟩
  go_enter Try.func5, Try.ntmps5
  go_wp2_with (first | (go_at_call 22; refine (alive_latch _).mono ?_; rintro e w1 ⟨rfl, hk⟩; have HK := hid hk; clear hk) | (go_at_call 23; refine (new_latch 6 _).mono ?_; rintro e w2 ⟨p, v, rfl, hi, hp, hv, hk⟩; have HK2 := hid (HK.out.trans' hk); have HI := hid (show IsLatch w2 p v [-1, -1, -1, -1, -1, -1] from hi); have HV := hid hv; clear hk hi hv))
  have hvB : ∀ b, v.ownBlock = some b → w.heap.size ≤ b := fun b hb => by have h1 := HV.out b hb; have h2 := HK.out.size; omega
  have hpB : w.heap.size ≤ p := by have h2 := HK.out.size; omega
  have HVB := hid hvB
  clear hvB hp HV
  go_loopw [26] (fun i wr => ∃ (k : Nat) (xs : List Int), k ≤ l.length ∧ i = .int .i64 k ∧ IsLatch wr p v xs ∧ xs.length = 6 ∧ Kp No w wr) (fun i _ => l.length - (intOf i).toNat)
  case atStart => exact ⟨0, _, Nat.zero_le _, rfl, HI.out, rfl, HK2.out⟩
  case round =>
    clear HI HK2 HK
    obtain ⟨k, xs, hk, rfl, hi, h6, hkp⟩ := hrel
    have HI := hid hi
    have H6 := hid h6
    have HK := hid hkp
    clear hi h6 hkp
    by_cases hlt : k < l.length
    · obtain ⟨b, o, rfl, hc⟩ := HL.out.2 (by omega)
      obtain ⟨hd0, hd1, hd2⟩ := hc k l[k] (by simp [hlt])
      have hc0 := HK.out.cell hd0 id
      have hc1 := HK.out.cell hd1 id
      have hc2 := HK.out.cell hd2 id
      clear hd0 hd1 hd2 hc
      generalize l[k].1 = kd at *
      generalize l[k].2.1 = lo at *
      generalize l[k].2.2 = wh at *
      have ha := Blk.new wr 39 [.int .i64 kd, .int .i64 lo, .int .i64 wh]
      have HA := hid ha
      have HIa := hid (HI.out.kp (Kp.alloc No wr _) id (fun _ _ => id) : IsLatch (wr.alloc (.cells [Value.int .i64 kd, .int .i64 lo, .int .i64 wh].toArray 39)) p v xs)
      have HVA : Hid (∀ b, v.ownBlock = some b → b < wr.heap.size) := fun b hb => Sl.lt HI.out.row hb
      have hs := HK.out.size
      clear ha
      go_wp2_with fail
      refine (owner_any p v xs lo _ HIa.out).mono ?_
      rintro e w3 ⟨rfl, rfl⟩
      clear hc0 hc1 hc2
      by_cases hkd : kd = 0
      · have hkd' : (kd == 0) = true := by simpa using hkd
        clear hkd
        go_wp2_with fail
        refine (try_any p v xs lo wh _ HIa.out).mono ?_
        rintro e w4 ⟨rfl, hi, hk4⟩
        have HA4 := hid (hk4.blk HA.out (fun e => by have := HVA.out _ e; omega))
        have hc1 := HA4.out.cell (i := 1) rfl
        have hc2 := HA4.out.cell (i := 2) rfl
        have HI4 := hid hi
        have HK4 := hid ((HK.out.trans' (Kp.alloc No wr (.cells [Value.int .i64 kd, .int .i64 lo, .int .i64 wh].toArray 39))).trans hk4 (by intro i hi he; have := HVB.out i he; omega))
        have H6' := hid ((length_tryS xs lo wh).trans H6.out)
        clear hi hk4 HA HIa HI HK
        cases hb : tryB xs lo wh with
        | true =>
          obtain ⟨ho1, ho2⟩ := tryB_true hb
          have h1 : (ownerL xs lo != -1) = false := by simpa using ho1
          have h2 : (wh != wh) = false := by simp
          have HO := hid ho2
          clear ho1 ho2 hb
          generalize tryS xs lo wh = ys at *
          generalize ownerL xs lo = ow at *
          go_wp2_with fail
          go_quiet ((go_at_call 24; exact Calls.quiet_of_same (owner_to p v ys lo wh HO.out _ (HI4.out.kp (Kp.drewN No _ _) id (fun _ _ => id)))))
          go_wp2
          first
            | exact ⟨⟨k + 1, _, by omega, by go_num, HI4.out.kp (Kp.drewN No _ _) id (fun _ _ => id), H6'.out, HK4.out.trans' (Kp.drewN _ _ _)⟩, by simp [intOf]; omega⟩
            | exact ⟨⟨k + 1, _, by omega, by go_num, HI4.out, H6'.out, HK4.out⟩, by simp [intOf]; omega⟩
        | false =>
          have HO : Hid (ownerL (tryS xs lo wh) lo = ownerL xs lo) := by rw [tryS_false hb]; rfl
          have h2 : (ownerL xs lo != ownerL xs lo) = false := by simp
          clear hb
          generalize tryS xs lo wh = ys at *
          generalize ownerL xs lo = ow at *
          go_wp2_with fail
          go_quiet ((go_at_call 24; exact Calls.quiet_of_same (owner_to p v ys lo ow HO.out _ (HI4.out.kp (Kp.drewN No _ _) id (fun _ _ => id)))))
          go_wp2
          first
            | exact ⟨⟨k + 1, _, by omega, by go_num, HI4.out.kp (Kp.drewN No _ _) id (fun _ _ => id), H6'.out, HK4.out.trans' (Kp.drewN _ _ _)⟩, by simp [intOf]; omega⟩
            | exact ⟨⟨k + 1, _, by omega, by go_num, HI4.out, H6'.out, HK4.out⟩, by simp [intOf]; omega⟩
      · have hkd' : (kd == 0) = false := by simpa using hkd
        clear hkd
        go_wp2_with fail
        refine (free_any p v xs lo wh _ HIa.out).mono ?_
        rintro e w4 ⟨rfl, hi, hk4⟩
        have HA4 := hid (hk4.blk HA.out (fun e => by have := HVA.out _ e; omega))
        have hc1 := HA4.out.cell (i := 1) rfl
        have hc2 := HA4.out.cell (i := 2) rfl
        have HI4 := hid hi
        have HK4 := hid ((HK.out.trans' (Kp.alloc No wr (.cells [Value.int .i64 kd, .int .i64 lo, .int .i64 wh].toArray 39))).trans hk4 (by intro i hi he; have := HVB.out i he; omega))
        have H6' := hid ((length_freeS xs lo wh).trans H6.out)
        clear hi hk4 HA HIa HI HK
        cases hb : freeB xs lo wh with
        | true =>
          obtain ⟨ho1, ho2⟩ := freeB_true hb
          rw [ho1]
          have h1 : (wh != wh) = false := by simp
          have h2 : ((-1 : Int) != -1) = false := by simp
          have HO := hid ho2
          clear ho1 ho2 hb
          generalize freeS xs lo wh = ys at *
          go_wp2_with (go_at_call 24; refine (owner_to p v ys lo (-1) HO.out _ HI4.out).mono ?_; rintro e w5 ⟨rfl, hw5⟩; obtain rfl := hw5)
          first
            | exact ⟨⟨k + 1, _, by omega, by go_num, HI4.out.kp (Kp.drewN No _ _) id (fun _ _ => id), H6'.out, HK4.out.trans' (Kp.drewN _ _ _)⟩, by simp [intOf]; omega⟩
            | exact ⟨⟨k + 1, _, by omega, by go_num, HI4.out, H6'.out, HK4.out⟩, by simp [intOf]; omega⟩
        | false =>
          have HO : Hid (ownerL (freeS xs lo wh) lo = ownerL xs lo) := by rw [freeS_false hb]; rfl
          have h2 : (ownerL xs lo != ownerL xs lo) = false := by simp
          clear hb
          generalize freeS xs lo wh = ys at *
          generalize ownerL xs lo = ow at *
          go_wp2_with (go_at_call 24; refine (owner_to p v ys lo ow HO.out _ HI4.out).mono ?_; rintro e w5 ⟨rfl, hw5⟩; obtain rfl := hw5)
          first
            | exact ⟨⟨k + 1, _, by omega, by go_num, HI4.out.kp (Kp.drewN No _ _) id (fun _ _ => id), H6'.out, HK4.out.trans' (Kp.drewN _ _ _)⟩, by simp [intOf]; omega⟩
            | exact ⟨⟨k + 1, _, by omega, by go_num, HI4.out, H6'.out, HK4.out⟩, by simp [intOf]; omega⟩
    · go_wp2_with fail
      clear hlt hk
      go_loopw [9, 10] (fun t i wx => ∃ (g : Nat), g ≤ 8 ∧ i = .int .i64 g ∧ t = .int .i64 (heldSum xs xs.length g) ∧ IsLatch wx p v xs ∧ Kp No w wx) (fun _ i _ => 8 - (intOf i).toNat)
      case atStart => exact ⟨0, by omega, rfl, rfl, HI.out, HK.out⟩
      case round =>
        clear HI HK
        obtain ⟨g, hg, rfl, rfl, hi, hkp⟩ := hrel
        have HI := hid hi
        have HK := hid hkp
        have hsum := heldSum_le xs xs.length g
        have hss := hid (heldSum_succ xs xs.length g)
        have hl := length_heldP xs (g : Int) xs.length
        have h6 := H6.out
        have hsum : heldSum xs xs.length g ≤ 6 := by omega
        have hl : (heldP xs (g : Int) xs.length).length ≤ 6 := by omega
        clear hi hkp h6
        by_cases hlt : g < 8
        · go_wp2_with fail
          refine (held_any p v xs g _ HI.out).mono ?_
          rintro e w5 ⟨v5, rfl, hv5, _, hk5⟩
          have HI5 := hid (HI.out.kp hk5 id (fun _ _ => id))
          have HK5 := hid (HK.out.trans' hk5)
          obtain ⟨so, cap, rfl, _, _⟩ := Sl.form hv5
          clear hv5 hk5
          generalize (heldP xs (g : Int) xs.length).length = a at *
          generalize heldSum xs xs.length g = s at *
          go_wp2
          go_roundw
          case rel => exact ⟨g + 1, by omega, by go_num, by rw [hss.out]; go_num, HI5.out, HK5.out⟩
          case measure => simp [intOf]; omega
        · generalize heldSum xs xs.length g = s at *
          go_wp2
          go_ret
          exact ⟨by simp; omega, HK.out⟩
end Go.Proofs.Ytijpdeanbkodkaa
