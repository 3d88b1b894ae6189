/-
  The walk of the law LatchRuns.
-/
import Derived.Test.YtijpdeanbkodkaaRef07
import Derived.Test.YtijpdeanbkodkaaRead
import Derived.Deep.RegionHeld3
import Derived.Deep.DeepCutAuto
import Derived.Deep.CutBlock
namespace Go.Proofs.Ytijpdeanbkodkaa
open Go.RowKit
set_option maxRecDepth 100000

/-- The locks and the reference's row lie apart. -/
def Apart (B : Nat) (p : Nat) (v wv : Value) : Prop := (∀ b, v.ownBlock = some b → B ≤ b) ∧ (∀ b, wv.ownBlock = some b → B ≤ b) ∧ B ≤ p ∧ (∀ b, v.ownBlock = some b → wv.ownBlock ≠ some b)

theorem Apart.wv {B p : Nat} {v wv wv' : Value} {W : World} (h : Apart B p v wv) (hm : Moved W wv wv') (hv : ∀ b, v.ownBlock = some b → b < W.heap.size) (hB : B ≤ W.heap.size) : Apart B p v wv' := by
  obtain ⟨h1, h2, h3, h4⟩ := h
  refine ⟨h1, moved_ge hm h2 hB, h3, fun b hb e => ?_⟩
  rcases hm with hm | ⟨c, hc, hcl⟩
  · exact h4 b hb (hm ▸ e)
  · rw [hc] at e; cases e; have := hv _ hb; omega
theorem Apart.v {B p : Nat} {v v' wv : Value} {W : World} (h : Apart B p v wv) (hm : Moved W v v') (hv : ∀ b, wv.ownBlock = some b → b < W.heap.size) (hB : B ≤ W.heap.size) : Apart B p v' wv := by
  obtain ⟨h1, h2, h3, h4⟩ := h
  refine ⟨moved_ge hm h1 hB, h2, h3, fun b hb e => ?_⟩
  rcases hm with hm | ⟨c, hc, hcl⟩
  · exact h4 b (hm ▸ hb) e
  · rw [hc] at hb; cases hb; have := hv _ e; omega

set_option maxHeartbeats 4000000 in
theorem runs07_walk (n : Int) (a1 : Option Addr) (n1 c1 : Nat) (l : List (Int × Int × Int)) (w : World) (_ : (Lit.int .i64 n).wf = true) (hl : Acts w a1 n1 l) (_ : a1 = none → c1 = 0) :
    Calls Try.prog 6 #[.int .i64 n, .slice a1 n1 c1] w fun e w' => e = .returned (.bool true) ∧ Kp No w w' := by
  have HL := hid hl
  obtain rfl := hl.1
  clear hl
  by_cases hlen : 100 < l.length
  · go_enter Try.func6, Try.ntmps6
    go_wp2_with (go_at_call 22; refine (alive_latch _).mono ?_; rintro e w1 ⟨rfl, hk⟩; have HK := hid hk; clear hk)
    go_ret
    exact ⟨rfl, HK.out⟩
  by_cases hn : 40 < n ∧ n ≤ 4096
  · obtain ⟨hn1, hn2⟩ := hn
    go_enter Try.func6, Try.ntmps6
    go_wp2_with (go_at_call 22; refine (alive_latch _).mono ?_; rintro e w1 ⟨rfl, hk⟩; have HK := hid hk; clear hk)
    go_ret
    exact ⟨rfl, HK.out⟩
  go_enter Try.func6, Try.ntmps6
  go_upto_region 3 with (go_at_call 22; refine (alive_latch _).mono ?_; rintro e w1 ⟨rfl, hk⟩; have HK := hid hk; clear hk)
  go_cut [24] (fun s wx => s = .bool false ∧ Kp No w wx)
  case first =>
    rcases (show n ≤ 40 ∨ (40 < n ∧ 4096 < n) by omega) with hn1 | ⟨hn1, hn2⟩
    all_goals
      clear hn
      go_wp2_with fail
      go_meet
      exact ⟨by simp; omega, HK.out⟩
  case rest =>
    obtain ⟨rfl, hkc⟩ := hcut
    clear hn HK
    have HK := hid hkc
    clear hkc
    go_wp2_with fail
    refine (new_latch n _).mono ?_
    rintro e w2 ⟨p, v, rfl, hi, hp, hv, hk⟩
    have HK2 := hid (HK.out.trans' hk)
    have HI := hid hi
    have HV := hid hv
    have hs1 := HK.out.size
    have hpl := hi.head.lt
    clear hi hv hk
    go_wp2_with fail
    refine (refNew07_any n _).mono ?_
    rintro e w3 ⟨wv, rfl, hi, hv, hk⟩
    have HI3 := hid (HI.out.kp hk id (fun _ _ => id))
    have HA : Hid (Apart w.heap.size p v wv) := ⟨fun b hb => by have := HV.out b hb; omega, fun b hb => by have := hv b hb; omega, by omega, fun b hb e => by have := hv b e; have := Sl.lt HI.out.row hb; omega⟩
    have HW := hid hi
    have HK3 := hid (HK2.out.trans' hk)
    clear hi hv hk HI HV HK HK2 hs1 hpl hp
    go_wp2_with fail
    go_loopw [6, 33] (fun wv i wr => ∃ (k : Nat) (v : Value) (xs : List Int), k ≤ l.length ∧ i = .int .i64 k ∧ IsLatch wr p v xs ∧ Ints wr wv xs ∧ Apart w.heap.size p v wv ∧ Kp No w wr) (fun _ i _ => l.length - (intOf i).toNat)
    case atStart => exact ⟨0, v, _, Nat.zero_le _, rfl, HI3.out, HW.out, HA.out, HK3.out⟩
    case round =>
      clear HI3 HW HA HK3
      obtain ⟨k, v, xs, hk, rfl, hi, hw, ha, hkp⟩ := hrel
      have HI := hid hi
      have HW := hid hw
      have HA := hid ha
      have HK := hid hkp
      have hle := hi.le
      clear hi hw ha hkp
      by_cases hlt : k < l.length
      · obtain ⟨b, o, rfl, hc⟩ := HL.out.2 (by omega)
        obtain ⟨hd0, hd1, hd2⟩ := hc k l[k] (by simp [hlt])
        have hc0 := HK.out.cell hd0 id
        have hc1 := HK.out.cell hd1 id
        have hc2 := HK.out.cell hd2 id
        clear hd0 hd1 hd2 hc
        generalize l[k].1 = kd at *
        generalize l[k].2.1 = lo at *
        generalize l[k].2.2 = wh at *
        have ha := Blk.new wr 39 [.int .i64 kd, .int .i64 lo, .int .i64 wh]
        have HB := hid ha
        have HIa := hid (HI.out.kp (Kp.alloc No wr _) id (fun _ _ => id) : IsLatch (wr.alloc (.cells [Value.int .i64 kd, .int .i64 lo, .int .i64 wh].toArray 39)) p v xs)
        have HWa := hid (HW.out.kpN (Kp.alloc No wr _) : Ints (wr.alloc (.cells [Value.int .i64 kd, .int .i64 lo, .int .i64 wh].toArray 39)) u6 xs)
        have HKa := hid (HK.out.trans' (Kp.alloc No wr (.cells [Value.int .i64 kd, .int .i64 lo, .int .i64 wh].toArray 39)))
        have hs := HK.out.size
        clear ha
        go_upto_block 2 with (fail)
        go_cut [6, 9, 10] (fun wv ok is wx => ∃ (b : Bool) (v' : Value) (xs' : List Int), ok = .bool b ∧ is = .bool b ∧ IsLatch wx p v' xs' ∧ Ints wx wv xs' ∧ Apart w.heap.size p v' wv ∧ Kp No w wx ∧ Blk wx wr.heap.size 39 [.int .i64 kd, .int .i64 lo, .int .i64 wh])
        case first =>
          by_cases h0 : kd = 0
          · have k0 : (kd == 0) = true := by simpa using h0
            clear h0
            go_wp2_with fail
            refine (refTry_any u6 xs lo wh _ HWa.out hle).mono ?_
            rintro e w4 ⟨wv4, rfl, hw4, hk4, hm4⟩
            have HI4 := hid (HIa.out.kp hk4 id (fun _ _ => id))
            have HB4 := hid (HB.out.kp' hk4)
            have HW4 := hid hw4
            have HK4 := hid (HKa.out.trans' hk4)
            have HA4 : Hid (Apart w.heap.size p v wv4) := HA.out.wv hm4 (fun b hb => by have := Sl.lt HI.out.row hb; simp; omega) (by simp; omega)
            have hc1 := HB4.out.cell (i := 1) rfl
            have hc2 := HB4.out.cell (i := 2) rfl
            have hBl : ∀ b, v.ownBlock = some b → b < wr.heap.size := fun b hb => Sl.lt HI.out.row hb
            have HBL := hid hBl
            clear hw4 hk4 hm4 hBl
            go_wp2_with fail
            refine (try_any p v xs lo wh _ HI4.out).mono ?_
            rintro e w5 ⟨rfl, hi5, hk5⟩
            have HI5 := hid hi5
            have HW5 := hid (HW4.out.kp hk5 (fun b hb e => HA4.out.2.2.2 b e hb))
            have HB5 := hid (hk5.blk HB4.out (fun e => by have := HBL.out _ e; omega))
            have HK5 := hid (HK4.out.trans hk5 (by intro i hi he; have := HA4.out.1 i he; omega))
            clear hi5 hk5 hc1 hc2
            go_wp2_with fail
            go_meet
            exact ⟨_, v, _, rfl, rfl, HI5.out, HW5.out, HA4.out, HK5.out, HB5.out⟩
          have k0 : (kd == 0) = false := by simpa using h0
          clear h0
          by_cases h1 : kd = 1
          · have k1 : (kd == 1) = true := by simpa using h1
            clear h1
            go_wp2_with fail
            refine (refFree_any u6 xs lo wh _ HWa.out hle).mono ?_
            rintro e w4 ⟨wv4, rfl, hw4, hk4, hm4⟩
            have HI4 := hid (HIa.out.kp hk4 id (fun _ _ => id))
            have HB4 := hid (HB.out.kp' hk4)
            have HW4 := hid hw4
            have HK4 := hid (HKa.out.trans' hk4)
            have HA4 : Hid (Apart w.heap.size p v wv4) := HA.out.wv hm4 (fun b hb => by have := Sl.lt HI.out.row hb; simp; omega) (by simp; omega)
            have hc1 := HB4.out.cell (i := 1) rfl
            have hc2 := HB4.out.cell (i := 2) rfl
            have hBl : ∀ b, v.ownBlock = some b → b < wr.heap.size := fun b hb => Sl.lt HI.out.row hb
            have HBL := hid hBl
            clear hw4 hk4 hm4 hBl
            go_wp2_with fail
            refine (free_any p v xs lo wh _ HI4.out).mono ?_
            rintro e w5 ⟨rfl, hi5, hk5⟩
            have HI5 := hid hi5
            have HW5 := hid (HW4.out.kp hk5 (fun b hb e => HA4.out.2.2.2 b e hb))
            have HB5 := hid (hk5.blk HB4.out (fun e => by have := HBL.out _ e; omega))
            have HK5 := hid (HK4.out.trans hk5 (by intro i hi he; have := HA4.out.1 i he; omega))
            clear hi5 hk5 hc1 hc2
            go_wp2_with fail
            go_meet
            exact ⟨_, v, _, rfl, rfl, HI5.out, HW5.out, HA4.out, HK5.out, HB5.out⟩
          have k1 : (kd == 1) = false := by simpa using h1
          clear h1
          by_cases h2 : kd = 2
          · have k2 : (kd == 2) = true := by simpa using h2
            clear h2
            obtain ⟨so, cap, rfl, _, hcc⟩ := Sl.form HW.out
            have HC := hid hcc
            clear hcc
            by_cases h4096 : xs.length < 4096
            · have hadd : addX xs = xs.length := if_neg (by omega)
              have hadS : addS xs = xs ++ [-1] := if_neg (by omega)
              have HX := hid hadd
              have HS := hid hadS
              clear hadd hadS
              go_wp2_with (first
                | (at_builtin; refine wpl_append rfl (.tmp 79) (.tmp 80) 23 rfl el23 (.slice (some ⟨wr.heap.size + 1, 0, none⟩) 0 0) 0 [] rfl (Sl.of_blk (by simpa using Blk.new (wr.alloc (.cells [Value.int .i64 kd, .int .i64 lo, .int .i64 wh].toArray 39)) 3 []) 1 0 rfl (by decide)) so xs.length cap (xs.map (Value.int .i64)) rfl (by simp) (HWa.out.source (Kp.alloc No _ _)) (ints_oneCell _ _) (by unfold maxLen; omega) (by omega) HC.out ?_; intro v4 w4 hv4 hk4 hm4; have HV4 := hid hv4; have HM4 := hid (moved_ge hm4 (B := wr.heap.size + 1) (by intro k hk; simp [Value.ownBlock] at hk; omega) (by simp)); have HK4 := hid ((Kp.alloc No (wr.alloc (.cells [Value.int .i64 kd, .int .i64 lo, .int .i64 wh].toArray 39)) (.cells #[] 3)).trans hk4 (by intro i hi he; simp [Value.ownBlock] at he; simp at hi; omega)); clear hv4 hk4 hm4)
                | (at_builtin; refine wpl_append rfl (.tmp 81) (.tmp 82) 23 rfl el23 v4 (0 + xs.length) ([] ++ xs.map (Value.int .i64)) rfl (Sl.kp (Kp.alloc No _ _) HV4.out (fun _ _ => id)) (some ⟨w4.heap.size, 0, none⟩) 1 1 [.int .i64 (-1)] rfl rfl (fun _ => ⟨_, rfl, cell_one_new _ _ _⟩) (by intro u hu; simp at hu; subst hu; rfl) (by unfold maxLen; omega) (by omega) (fun e => by cases e) ?_; intro v5 w5 hv5 hk5 hm5; have HV5 := hid (show Ints w5 v5 (xs ++ [-1]) by unfold Ints; simpa using hv5); have HM5 := hid (moved_ge hm5 HM4.out (by have := HK4.out.size; simp at this; simp; omega)); have HK5 := hid (HK4.out.trans ((Kp.alloc _ _ _).trans' hk5) (by intro i hi he; have := HM4.out i he; simp at hi; omega)); clear hv5 hk5 hm5))
              have HI5 := hid (HIa.out.kp HK5.out id (fun _ _ => id))
              have HB5 := hid (HB.out.kp' HK5.out)
              have hBl : ∀ b, v.ownBlock = some b → b < wr.heap.size := fun b hb => Sl.lt HI.out.row hb
              have HBL := hid hBl
              have hv5l : ∀ b, v5.ownBlock = some b → b < w5.heap.size := fun b hb => Sl.lt HV5.out hb
              have HVL := hid hv5l
              clear hBl hv5l
              refine (add_any p v xs _ HI5.out).mono ?_
              rintro e w6 ⟨v6, rfl, hi6, hk6, hm6⟩
              have HI6 := hid hi6
              have hlt5 := HI5.out.head.lt
              have HA5 : Hid (Apart w.heap.size p v v5) := ⟨HA.out.1, fun b hb => by have := HM5.out b hb; omega, HA.out.2.2.1, fun b hb e => by have := HM5.out b e; have := HBL.out b hb; omega⟩
              have hpl := HI.out.head.lt
              have HW6 := hid (HV5.out.kp hk6 (fun b hb e => by rcases e with e | e; exact (by have := HM5.out b hb; omega); exact HA5.out.2.2.2 b e hb))
              have HB6 := hid (hk6.blk HB5.out (fun e => by rcases e with e | e; exact (by omega); exact (by have := HBL.out _ e; omega)))
              have HK6 := hid ((HKa.out.trans' HK5.out).trans hk6 (by intro i hi he; rcases he with he | he; exact (by have := HA.out.2.2.1; omega); exact (by have := HA.out.1 i he; omega)))
              have HA6 : Hid (Apart w.heap.size p v6 v5) := HA5.out.v hm6 HVL.out (by have := HKa.out.size; have := HK5.out.size; omega)
              have h1 := HX.out
              rw [h1]
              clear hi6 hk6 hm6 h1 hpl hlt5
              go_wp2_with fail
              go_meet
              refine ⟨true, v6, xs ++ [-1], ?_, rfl, ?_, HW6.out, HA6.out, HK6.out, HB6.out⟩
              · simp
              · have := HI6.out
                rwa [HS.out] at this
            · have hadd : addX xs = -1 := if_pos (by omega)
              have hadS : addS xs = xs := if_pos (by omega)
              have HX := hid hadd
              have HS := hid hadS
              clear hadd hadS
              go_wp2_with fail
              refine (add_any p v xs _ HIa.out).mono ?_
              rintro e w6 ⟨v6, rfl, hi6, hk6, hm6⟩
              have HI6 := hid hi6
              have hpl := HI.out.head.lt
              have hBl : ∀ b, v.ownBlock = some b → b < wr.heap.size := fun b hb => Sl.lt HI.out.row hb
              have hWl : ∀ b, (Value.slice so xs.length cap).ownBlock = some b → b < wr.heap.size := fun b hb => Sl.lt HW.out hb
              have HW6 := hid (HWa.out.kp hk6 (fun b hb e => by rcases e with e | e; exact (HA.out.2.2.1 |> fun _ => Sl.ne HW.out HI.out.head (by decide) (by rw [hb, e])); exact HA.out.2.2.2 b e hb))
              have HB6 := hid (hk6.blk HB.out (fun e => by rcases e with e | e; exact (by omega); exact (by have := hBl _ e; omega)))
              have HK6 := hid (HKa.out.trans hk6 (by intro i hi he; rcases he with he | he; exact (by have := HA.out.2.2.1; omega); exact (by have := HA.out.1 i he; omega)))
              have HA6 : Hid (Apart w.heap.size p v6 (.slice so xs.length cap)) := HA.out.v hm6 (fun b hb => by have := hWl b hb; simp; omega) (by simp; omega)
              have h1 := HX.out
              rw [h1]
              clear hi6 hk6 hm6 h1 hpl hBl hWl
              go_wp2_with fail
              go_meet
              refine ⟨true, v6, xs, ?_, rfl, ?_, HW6.out, HA6.out, HK6.out, HB6.out⟩
              · simp
              · have := HI6.out
                rwa [HS.out] at this
          · have k2 : (kd == 2) = false := by simpa using h2
            clear h2
            go_wp2_with fail
            go_meet
            exact ⟨true, v, xs, rfl, rfl, HIa.out, HWa.out, HA.out, HKa.out, HB.out⟩
        case rest =>
          obtain ⟨bb, v', xs', rfl, rfl, hi', hw', ha', hk', hb'⟩ := hcut
          clear HI HW HA HK HB HIa HWa HKa hle hc0 hc1 hc2
          have HIa := hid hi'
          have HWa := hid hw'
          have HA := hid ha'
          have HKa := hid hk'
          have HB := hid hb'
          have hle := hi'.le
          have hbb : (bb != bb) = false := by simp
          clear hi' hw' ha' hk' hb' hs
          obtain ⟨so, cap, rfl, _, _⟩ := Sl.form HWa.out
          go_wp2_with fail
          go_region_held3 (fun w' => w'.cell? ⟨wr.heap.size, 1, none⟩ = some (.int .i64 lo) ∧ w'.cell? ⟨wr.heap.size, 2, none⟩ = some (.int .i64 wh)) (first | exact ⟨HB6.out.cell (i := 1) rfl, HB6.out.cell (i := 2) rfl⟩ | exact ⟨HB5.out.cell (i := 1) rfl, HB5.out.cell (i := 2) rfl⟩ | exact ⟨(HB.out.kp' (Kp.drew No _)).cell (i := 1) rfl, (HB.out.kp' (Kp.drew No _)).cell (i := 2) rfl⟩)
            (first
              | (go_at_call 32; refine (len_latch p v' xs' _ ?_).mono ?_; (exact HIa.out.kp (Kp.drew No _) id (fun _ _ => id)); rintro e w' ⟨rfl, rfl⟩)
              | (go_at_call 24; refine (owner_any p v' xs' lo _ ?_).mono ?_; (exact HIa.out.kp (Kp.drew No _) id (fun _ _ => id)); rintro e w' ⟨rfl, rfl⟩)
              | (go_at_call 33; refine (refOwner_any _ xs' lo _ ?_ hle).mono ?_; (exact HWa.out.kpN (Kp.drew No _)); rintro e w' ⟨rfl, hw'⟩; obtain rfl := hw')
              | (go_at_call 27; refine (held_any p v' xs' wh _ ?_).mono ?_; (exact HIa.out.kp (Kp.drew No _) id (fun _ _ => id)); rintro e w5 ⟨v5, rfl, hv5, _, hk5⟩; have HB5 := hid (Blk.kp' HB.out ((Kp.drew No _).trans' hk5)); have HI5 := hid (HIa.out.kp ((Kp.drew No _).trans' hk5) id (fun _ _ => id)); have HW5 := hid (HWa.out.kpN ((Kp.drew No _).trans' hk5)); have HK5 := hid (HKa.out.trans' ((Kp.drew No _).trans' hk5)); have HV5 := hid hv5; clear hv5 hk5)
              | (go_at_call 35; refine (refHeld_any _ xs' wh _ HW5.out hle).mono ?_; rintro e w6 ⟨v6, rfl, hv6, _, hk6⟩; have HB6 := hid (Blk.kp' HB5.out hk6); have HI6 := hid (HI5.out.kp hk6 id (fun _ _ => id)); have HW6 := hid (HW5.out.kpN hk6); have HK6 := hid (HK5.out.trans' hk6); have HV6 := hid (HV5.out.kpN hk6); have HU6 := hid hv6; clear hv6 hk6)
              | (go_at_call 34; refine (same_to _ _ _ _ HV6.out HU6.out (by have := length_heldP xs' wh xs'.length; omega)).mono ?_; rintro e w7 ⟨rfl, m7, rfl⟩))
          all_goals
            go_wp2
            go_roundw
            case rel => exact ⟨k + 1, v', xs', by omega, by go_num, HI6.out.kp (Kp.drewN No _ _) id (fun _ _ => id), HW6.out.kpN (Kp.drewN No _ _), HA.out, HK6.out.trans' (Kp.drewN _ _ _)⟩
            case measure => simp [intOf]; omega
      · obtain ⟨so, cap, rfl, _, _⟩ := Sl.form HW.out
        go_wp2_with (go_at_call 32; refine (len_latch p v xs _ HI.out).mono ?_; rintro e w' ⟨rfl, rfl⟩)
        go_ret
        exact ⟨by simp, HK.out⟩
end Go.Proofs.Ytijpdeanbkodkaa
