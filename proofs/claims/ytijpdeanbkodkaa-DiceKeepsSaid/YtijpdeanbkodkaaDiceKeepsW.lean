/-
  The walk of the law DiceKeeps: it answers true at every list, every asks and every skip, and writes nothing that was there.
-/
import Derived.Test.YtijpdeanbkodkaaDice
namespace Go.Proofs.Ytijpdeanbkodkaa
open Go.RowKit

set_option maxRecDepth 100000 in
set_option maxHeartbeats 1000000 in
theorem keeps_walk (a0 : Option Addr) (n0 c0 : Nat) (l : List Int) (a1 : Option Addr) (n1 c1 : Nat) (m : List Int) (s : Int) (w : World) (hl : Src w .u16 a0 n0 l) (hw : ∀ x ∈ l, 0 ≤ x ∧ x < 65536) (hm : Src w .i64 a1 n1 m)
    (hc0 : a0 = none → c0 = 0) :
    Calls Try.prog 4 #[.slice a0 n0 c0, .slice a1 n1 c1, .int .i64 s] w fun e w' => e = .returned (.bool true) ∧ Kp No w w' := by
  have HL := hid hl
  have HM := hid hm
  have HW := hid hw
  have HC := hid hc0
  obtain rfl := hl.1
  clear hl hm hw hc0
  by_cases hlen : 300 < l.length
  · go_enter Try.func4, Try.ntmps4
    go_wp2_with (go_at_call 15; refine (alive_any _).mono ?_; rintro e w1 ⟨rfl, hk⟩)
    go_ret
    exact ⟨rfl, hk⟩
  by_cases hlen1 : 300 < n1
  · go_enter Try.func4, Try.ntmps4
    go_wp2_with (go_at_call 15; refine (alive_any _).mono ?_; rintro e w1 ⟨rfl, hk⟩)
    go_ret
    exact ⟨rfl, hk⟩
  go_enter Try.func4, Try.ntmps4
  go_wp2_with (first | (go_at_call 15; refine (alive_any _).mono ?_; rintro e w1 ⟨rfl, hk⟩; have HK1 := hid hk; clear hk) | (at_builtin; refine wpl_append rfl _ _ 22 rfl el22 (.slice (some ⟨w1.heap.size, 0, none⟩) 0 0) 0 [] rfl (Sl.of_blk (Blk.new _ _ []) 1 0 rfl (by decide)) a0 l.length c0 (l.map (Value.int .u16)) rfl (by simp) (fun h => (HL.out.kp (HK1.out.trans' (Kp.alloc No _ _)) (fun _ _ => id)).ints (by simpa using h)) (ints_oneCell _ _) (by unfold maxLen; omega) (by omega) HC.out ?_; intro v1 w2 hv2 hk2 hm2; have HV2 := hid hv2; have HK2 := hid ((HK1.out.trans' (Kp.alloc No _ _)).trans hk2 (by intro i hi he; have := HK1.out.size; simp [Value.ownBlock] at he; omega)); have HG := moved_ge hm2 (B := w.heap.size) (by intro k hk; have := HK1.out.size; simp [Value.ownBlock] at hk; omega) (by have := HK1.out.size; simp; omega); have HG' := hid HG; clear hv2 hk2 hm2 HG))
  -- the two dice
  refine (new_any a0 l.length c0 l w2 (HL.out.kp HK2.out (fun _ _ => id)) (by omega) HW.out).mono ?_
  rintro e w3 ⟨d, q, rfl, hd, hk3, hdg, hqg⟩
  have HD := hid hd
  have hv2 : Sl w2 32 1 v1 l.length (l.map (Value.int .u16)) := by simpa using HV2.out
  have hv3 := hv2.kp hk3 (fun _ _ => id)
  have hlt2 : ∀ k, v1.ownBlock = some k → k < w2.heap.size := fun k hk => hv2.lt hk
  have HT := hid hlt2
  have HV3 := hid hv3
  have HK3 := hid (HK2.out.trans' hk3)
  have hs2 := HK2.out.size
  have HK3' := hid hk3
  clear hd hk3 hv2 hv3 hlt2 HV2
  go_wp2_with fail
  obtain ⟨so, cc, hve, hsrc, _⟩ := Sl.src HV3.out
  subst hve
  refine (new_any so l.length cc l w3 hsrc (by omega) HW.out).mono ?_
  rintro e w4 ⟨d2, q2, rfl, hd2, hk4, hd2g, hq2g⟩
  have HD2 := hid hd2
  have hs3 := HK3'.out.size
  have hda := HD.out.head.lt
  have hqa := HD.out.row.lt
  have HA := hid (HD.out.kp hk4 id id)
  have HV4 := hid (HV3.out.kp hk4 (fun _ _ => id))
  have HK4 := hid (HK3.out.trans' hk4)
  clear hsrc hd2 hk4 HV3 HK3 HK3' HD HK2 HK1
  go_wp2_with fail
  -- the list behind the second one is written over
  go_loopw [40] (fun i wr => ∃ (j : Nat) (xs : List Int), j ≤ l.length ∧ i = .int .i64 j ∧ Sl wr 32 1 (.slice so l.length cc) l.length (xs.map (Value.int .u16)) ∧ Kp (fun b => (Value.slice so l.length cc).ownBlock = some b) w4 wr) (fun i _ => l.length - (intOf i).toNat)
  case atStart => exact ⟨0, l, Nat.zero_le _, rfl, HV4.out, Kp.refl _ _⟩
  case round =>
    obtain ⟨j, xs, hj, rfl, hv, hk⟩ := hrel
    by_cases hlt : j < l.length
    · obtain ⟨g, cap, he, _, _⟩ := Sl.shape hv (by omega)
      obtain ⟨rfl, rfl⟩ : so = some ⟨g, 0, none⟩ ∧ cc = cap := by simpa using he
      have hxl : xs.length = l.length := by simpa using hv.1
      have hcj := hv.cell (j := j) (u := .int .u16 (xs[j]?.getD 0)) (by simp [show j < xs.length by omega])
      have hfj := hv.frozen j
      have HV := hid hv
      have HK := hid hk
      generalize xs[j]?.getD 0 = x at *
      clear he hv hk
      go_wp2
      go_roundw
      case rel => exact ⟨j + 1, xs.set j (IntKind.u16.wrap (x + 1)), by omega, by go_num, by rw [List.map_set]; exact HV.out.set j _, HK.out.trans' (Kp.setCell _ _ _ (fun _ => rfl))⟩
      case measure => simp [intOf]; omega
    · have hkd : ∀ b, w2.heap.size ≤ b → ¬ (Value.slice so l.length cc).ownBlock = some b := fun b hb he => by have := HT.out b he; omega
      have HA5 := hid (HA.out.kp hk (hkd _ hdg) (hkd _ hqg))
      have HD5 := hid (HD2.out.kp hk (hkd _ (by omega)) (hkd _ (by omega)))
      have HN : Hid (d ≠ d2 ∧ q ≠ d2 ∧ d ≠ q2 ∧ q ≠ q2) := ⟨by omega, by omega, by omega, by omega⟩
      have HE : Hid (w.heap.size ≤ d ∧ w.heap.size ≤ d2) := ⟨by omega, by omega⟩
      have HK5 := hid ((HK4.out.trans hk (by intro i hi he; have := HG'.out i he; omega)))
      clear hv hk hkd HA HD2 HK4 HV4 HT hdg hqg hd2g hq2g
      go_wp2_with (go_at_call 21; refine (skip_any d q l 0 s _ HA5.out).mono ?_; rintro e w6 ⟨rfl, hd6, hk6⟩)
      have HB6 := hid (HD5.out.kp hk6 HN.out.1.symm HN.out.2.2.1.symm)
      have HA6 := hid hd6
      have HK6 := hid (HK5.out.trans hk6 (by intro i hi he; have := HE.out.1; omega))
      clear HD5 hd6 hk6 HA5 HK5
      go_wp2_with fail
      clear hlt hj
      go_loopw [11] (fun i wr => ∃ (j : Nat), j ≤ l.length ∧ ((j : Int) ≤ s ∨ j = 0) ∧ i = .int .i64 j ∧ IsDice wr d2 q2 l j ∧ Kp (fun b => b = d2) w6 wr) (fun i _ => l.length - (intOf i).toNat)
      case atStart => exact ⟨0, Nat.zero_le _, .inr rfl, rfl, HB6.out, Kp.refl _ _⟩
      case round =>
        obtain ⟨j, hj, hjs, rfl, hdj, hkj⟩ := hrel
        have HDJ := hid hdj
        have HKJ := hid hkj
        have HJS := hid hjs
        clear hdj hkj hjs
        by_cases hgo : (j : Int) < s ∧ j < l.length
        · obtain ⟨h1, h2⟩ := hgo
          have e2 : drawK l j 1 = j + 1 := if_neg (by omega)
          have E2 := hid e2
          clear e2
          go_wp2_with (go_at_call 18; refine (draw_any d2 q2 l j 1 _ HDJ.out).mono ?_; rintro e w7 ⟨rfl, hd7, hk7⟩; have HD7 := hid hd7; have HK7 := hid hk7; clear hd7 hk7)
          go_roundw
          case rel => exact ⟨j + 1, by omega, .inl (by omega), by go_num, by have := HD7.out; rwa [E2.out] at this, HKJ.out.trans' HK7.out⟩
          case measure => simp [intOf]; omega
        · have hx : skipK l.length 0 s = j := by have := HJS.out; unfold skipK; split <;> (try split) <;> omega
          have ha := HA6.out.kp HKJ.out HN.out.1 HN.out.2.1
          have hkk := HK6.out.trans HKJ.out (by intro i hi he; have := HE.out.2; omega)
          rw [hx] at ha
          have HA := hid ha
          have HB := hid HDJ.out
          have HK := hid hkk
          clear hx ha hkk HA6 HB6 HDJ HKJ HK6 HJS
          rcases (show (s ≤ j) ∨ ((j : Int) < s ∧ l.length ≤ j) by omega) with h1 | ⟨h1, h2⟩
          all_goals
            clear hgo
            go_wp2_with fail
            go_loopw [68] (fun i wx => ∃ (t k : Nat), t ≤ n1 ∧ i = .int .i64 t ∧ IsDice wx d q l k ∧ IsDice wx d2 q2 l k ∧ Kp No w wx) (fun i _ => n1 - (intOf i).toNat)
            case atStart => exact ⟨0, j, Nat.zero_le _, rfl, HA.out, HB.out, HK.out⟩
            case round =>
              obtain ⟨t, k, ht, rfl, hak, hbk, hkx⟩ := hrel
              have HA' := hid hak
              have HB' := hid hbk
              have HK' := hid hkx
              clear hak hbk hkx HA HB HK
              by_cases hlt : t < n1
              · obtain ⟨ad, rfl, hc⟩ := (HM.out.kp HK'.out (fun _ _ => id)).cellN t hlt
                generalize m[t]?.getD 0 = n at *
                have hx0 := drawX_le l k n HW.out
                go_wp2_with fail
                refine (draw_any d q l k n _ HA'.out).mono ?_
                rintro e w7 ⟨rfl, ha7, hk7⟩
                have HA7 := hid ha7
                have HB7 := hid (HB'.out.kp hk7 HN.out.1.symm HN.out.2.2.1.symm)
                have HK7 := hid (HK'.out.trans hk7 (by intro i hi he; have := HE.out; omega))
                clear ha7 hk7 HA' HB' HK' hc
                go_wp2_with fail
                refine (draw_any d2 q2 l k n _ HB7.out).mono ?_
                rintro e w8 ⟨rfl, hb8, hk8⟩
                have HB8 := hid hb8
                have HA8 := hid (HA7.out.kp hk8 HN.out.1 HN.out.2.1)
                have HK8 := hid (HK7.out.trans hk8 (by intro i hi he; have := HE.out; omega))
                clear hb8 hk8 HA7 HB7 HK7
                generalize drawX l k n = x at *
                generalize drawK l k n = k' at *
                obtain ⟨hx0, hx1, hx2⟩ := hx0
                by_cases hn : n < 1
                · obtain rfl := hx2 hn
                  clear hx1 hx2
                  go_wp2
                  first
                    | exact ⟨⟨t + 1, k', by omega, by go_num, HA8.out, HB8.out, HK8.out⟩, by simp [intOf]; omega⟩
                    | exact ⟨⟨_, _, _, _, ⟨t + 1, by omega, by go_num, k', HA8.out, HB8.out, HK8.out⟩, rfl, rfl, rfl, rfl⟩, by simp [intOf]; omega⟩
                · have hx3 := hx1 (by omega)
                  clear hx1 hx2
                  go_wp2
                  first
                    | exact ⟨⟨t + 1, k', by omega, by go_num, HA8.out, HB8.out, HK8.out⟩, by simp [intOf]; omega⟩
                    | exact ⟨⟨_, _, _, _, ⟨t + 1, by omega, by go_num, k', HA8.out, HB8.out, HK8.out⟩, rfl, rfl, rfl, rfl⟩, by simp [intOf]; omega⟩
              · have hfin : ((k : Int) + ((l.length : Int) - k) == l.length) = true := by simp; omega
                go_wp2_with fail
                refine (drawn_any d q l k _ HA'.out).mono ?_
                rintro e w7 ⟨rfl, rfl⟩
                go_wp2_with fail
                refine (drawn_any d2 q2 l k _ HB'.out).mono ?_
                rintro e w7 ⟨rfl, rfl⟩
                go_wp2_with fail
                refine (drawn_any d q l k _ HA'.out).mono ?_
                rintro e w7 ⟨rfl, rfl⟩
                go_wp2_with fail
                refine (left_any d q l k _ HA'.out).mono ?_
                rintro e w7 ⟨rfl, mm, rfl⟩
                go_wp2_with fail
                go_ret
                exact ⟨rfl, HK'.out.trans' (Kp.drewN _ _ _)⟩
end Go.Proofs.Ytijpdeanbkodkaa
