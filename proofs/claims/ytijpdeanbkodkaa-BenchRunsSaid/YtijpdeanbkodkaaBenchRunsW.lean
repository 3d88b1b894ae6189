/-
  The walk of the law BenchRuns.
-/
import Derived.Test.YtijpdeanbkodkaaRef08
import Derived.Test.YtijpdeanbkodkaaRead
import Derived.Deep.DeepCutAuto
import Derived.Deep.CutBlock
namespace Go.Proofs.Ytijpdeanbkodkaa
open Go.RowKit
set_option maxRecDepth 100000

theorem seat?_nat (xs : List (Int × Bool)) (j : Nat) : seat? xs (j : Int) = xs[j]? := by unfold seat?; rw [if_pos (by omega)]; rfl
theorem seat?_neg (xs : List (Int × Bool)) : statusX xs (-1) = 2 := by unfold statusX seat?; rfl
theorem token_len (xs : List (Int × Bool)) : tokenX xs xs.length = false := by unfold tokenX; rw [seat?_nat, List.getElem?_eq_none (by omega)]
/-- The j-th seat that runs stands behind those ahead of it. -/
theorem runP_get (xs : List (Int × Bool)) {j n : Nat} (hj : j < n) (h : isB xs (j : Int) 0 = true) : (runP xs n)[(runP xs j).length]? = some (j : Int) := by
  induction n with
  | zero => omega
  | succ n ih =>
    rw [runP_succ]
    by_cases hjn : j = n
    · subst hjn
      rw [h]
      simp
    · have h1 := ih (by omega)
      rw [List.getElem?_append_left (List.getElem?_eq_some_iff.1 h1).1]
      exact h1
theorem runP_len_succ (xs : List (Int × Bool)) (k : Nat) (b : Bool) (h : isB xs (k : Int) 0 = b) : (runP xs (k + 1)).length = (runP xs k).length + (if b then 1 else 0) := by
  rw [runP_succ, h, List.length_append]
  cases b <;> rfl
theorem runP_mono (xs : List (Int × Bool)) {j n : Nat} (hj : j ≤ n) : (runP xs j).length ≤ (runP xs n).length := by
  induction n with
  | zero => rw [show j = 0 by omega]; exact Nat.le_refl _
  | succ n ih =>
    by_cases h : j = n + 1
    · rw [h]; exact Nat.le_refl _
    · have := ih (by omega)
      rw [runP_succ, List.length_append]
      omega

set_option maxHeartbeats 4000000 in
theorem runs08_walk (n : Int) (a1 : Option Addr) (n1 c1 : Nat) (l : List (Int × Int × Int × Bool)) (w : World) (_ : (Lit.int .i64 n).wf = true) (hl : Acts4 w a1 n1 l) (_ : a1 = none → c1 = 0) :
    Calls Try.prog 10 #[.int .i64 n, .slice a1 n1 c1] w fun e w' => e = .returned (.bool true) ∧ Kp No w w' := by
  have HL := hid hl
  obtain rfl := hl.1
  clear hl
  by_cases hlen : 100 < l.length
  · go_enter Try.func10, Try.ntmps10
    go_wp2_with (go_at_call 36; refine (alive_bench _).mono ?_; rintro e w1 ⟨rfl, hk⟩; have HK := hid hk; clear hk)
    go_ret
    exact ⟨rfl, HK.out⟩
  by_cases hn : 40 < n ∧ n ≤ 4096
  · obtain ⟨hn1, hn2⟩ := hn
    go_enter Try.func10, Try.ntmps10
    go_wp2_with (go_at_call 36; refine (alive_bench _).mono ?_; rintro e w1 ⟨rfl, hk⟩; have HK := hid hk; clear hk)
    go_ret
    exact ⟨rfl, HK.out⟩
  go_enter Try.func10, Try.ntmps10
  go_upto_region 3 with (go_at_call 36; refine (alive_bench _).mono ?_; rintro e w1 ⟨rfl, hk⟩; have HK := hid hk; clear hk)
  go_cut [27] (fun s wx => s = .bool false ∧ Kp No w wx)
  case first =>
    rcases (show n ≤ 40 ∨ (40 < n ∧ 4096 < n) by omega) with hn1 | ⟨hn1, hn2⟩
    all_goals
      clear hn
      go_wp2_with fail
      go_meet
      exact ⟨by simp; omega, HK.out⟩
  case rest =>
    obtain ⟨rfl, hkc⟩ := hcut
    clear hn HK
    have HK := hid hkc
    clear hkc
    go_wp2_with fail
    refine (new_bench n _).mono ?_
    rintro e w2 ⟨p, q, rfl, hi, hp, hq, hk⟩
    have HK2 := hid (HK.out.trans' hk)
    have HI := hid hi
    have hs1 := HK.out.size
    have hpB : w.heap.size ≤ p := by omega
    have hqB : w.heap.size ≤ q := by omega
    clear hi hk hp hq
    go_wp2_with fail
    refine (refNew08_any n _).mono ?_
    rintro e w3 ⟨wv, rfl, hi, hv, hk⟩
    have HI3 := hid (HI.out.kpN hk)
    have HW := hid hi
    have HWB : Hid (∀ b, wv.ownBlock = some b → w.heap.size ≤ b) := fun b hb => by have := hv b hb; have := HK2.out.size; omega
    have HK3 := hid (HK2.out.trans' hk)
    clear hi hv hk HI HK HK2 hs1
    generalize List.replicate (newN n) ((0 : Int), false) = xs0 at *
    obtain ⟨so, cap, hwe, _, _⟩ := Sl.form HW.out
    subst hwe
    go_wp2_with (go_at_call 56; refine (len_bench p q _ _ HI3.out).mono ?_; rintro e w' ⟨rfl, hw'⟩; rw [hw']; clear hw')
    go_loopw [6, 43] (fun wv i wr => ∃ (k : Nat) (xs : List (Int × Bool)), k ≤ l.length ∧ i = .int .i64 k ∧ IsBench wr p q xs ∧ Seats wr wv xs ∧ (∀ b, wv.ownBlock = some b → w.heap.size ≤ b) ∧ Kp No w wr) (fun _ i _ => l.length - (intOf i).toNat)
    case atStart => exact ⟨0, _, Nat.zero_le _, rfl, HI3.out, HW.out, HWB.out, HK3.out⟩
    case round =>
      clear HI3 HW HWB HK3
      obtain ⟨k, xs, hk, rfl, hi, hw, ha, hkp⟩ := hrel
      have HI := hid hi
      have HW := hid hw
      have HWB := hid ha
      have HK := hid hkp
      have hle := hi.le
      clear hi hw ha hkp
      by_cases hlt : k < l.length
      · obtain ⟨b, o, rfl, hc⟩ := HL.out.2 (by omega)
        obtain ⟨hd0, hd1, hd2, hd3⟩ := hc k l[k] (by simp [hlt])
        have hc0 := HK.out.cell hd0 id
        have hc1 := HK.out.cell hd1 id
        have hc2 := HK.out.cell hd2 id
        have hc3 := HK.out.cell hd3 id
        clear hd0 hd1 hd2 hd3 hc
        generalize l[k].1 = kd at *
        generalize l[k].2.1 = gg at *
        generalize l[k].2.2.1 = st at *
        generalize l[k].2.2.2 = tk at *
        have ha := Blk.new wr 72 [.int .i64 kd, .int .i64 gg, .int .i64 st, .bool tk]
        have HB := hid ha
        have HIa := hid (HI.out.kpN (Kp.alloc No wr _) : IsBench (wr.alloc (.cells [Value.int .i64 kd, .int .i64 gg, .int .i64 st, .bool tk].toArray 72)) p q xs)
        have HWa := hid (HW.out.kpN (Kp.alloc No wr _) : Seats (wr.alloc (.cells [Value.int .i64 kd, .int .i64 gg, .int .i64 st, .bool tk].toArray 72)) u6 xs)
        have HKa := hid (HK.out.trans' (Kp.alloc No wr (.cells [Value.int .i64 kd, .int .i64 gg, .int .i64 st, .bool tk].toArray 72)))
        have hs := HK.out.size
        clear ha
        go_upto_block 2 with (fail)
        go_cut [6, 9, 10] (fun wv ok is wx => ∃ (b : Bool) (xs' : List (Int × Bool)), ok = .bool b ∧ is = .bool b ∧ IsBench wx p q xs' ∧ Seats wx wv xs' ∧ (∀ b, wv.ownBlock = some b → w.heap.size ≤ b) ∧ Kp No w wx ∧ Blk wx wr.heap.size 72 [.int .i64 kd, .int .i64 gg, .int .i64 st, .bool tk])
        case first =>
          by_cases h0 : kd = 0
          · have k0 : (kd == 0) = true := by simpa using h0
            clear h0
            obtain ⟨ys, bb, hr⟩ : ∃ ys bb, parkR xs gg = (ys, bb) := ⟨_, _, rfl⟩
            have HR := hid hr
            clear hr
            go_wp2_with fail
            refine (refPark_any u6 xs gg ys bb HR.out _ HWa.out hle).mono ?_
            rintro e w4 ⟨wv4, rfl, hw4, hk4, hm4⟩
            have HI4 := hid (HIa.out.kpN hk4)
            have HB4 := hid (HB.out.kp' hk4)
            have HW4 := hid hw4
            have HK4 := hid (HKa.out.trans' hk4)
            have HV4 := hid (moved_ge hm4 HWB.out (by have := HKa.out.size; omega))
            have hc1 := HB4.out.cell (i := 1) rfl
            have hc2 := HB4.out.cell (i := 2) rfl
            have hc3 := HB4.out.cell (i := 3) rfl
            have hqlt := HI.out.row.lt
            clear hw4 hk4 hm4
            go_wp2_with fail
            refine (park_any p q xs gg ys bb HR.out _ HI4.out).mono ?_
            rintro e w5 ⟨rfl, hi5, hk5⟩
            have HI5 := hid hi5
            have HW5 := hid (HW4.out.kp hk5 (fun b hb e => Sl.ne HW4.out HI4.out.row (by decide) (by rw [hb, e])))
            have HB5 := hid (hk5.blk HB4.out (by omega))
            have HK5 := hid (HK4.out.trans hk5 (by intro i hi he; omega))
            clear hi5 hk5 hc1 hc2 hc3 hqlt
            go_wp2_with fail
            go_meet
            exact ⟨_, ys, rfl, rfl, HI5.out, HW5.out, HV4.out, HK5.out, HB5.out⟩
          have k0 : (kd == 0) = false := by simpa using h0
          clear h0
          by_cases h1 : kd = 1
          · have k1 : (kd == 1) = true := by simpa using h1
            clear h1
            obtain ⟨ys, bb, hr⟩ : ∃ ys bb, readyR xs gg = (ys, bb) := ⟨_, _, rfl⟩
            have HR := hid hr
            clear hr
            go_wp2_with fail
            refine (refReady_any u6 xs gg ys bb HR.out _ HWa.out hle).mono ?_
            rintro e w4 ⟨wv4, rfl, hw4, hk4, hm4⟩
            have HI4 := hid (HIa.out.kpN hk4)
            have HB4 := hid (HB.out.kp' hk4)
            have HW4 := hid hw4
            have HK4 := hid (HKa.out.trans' hk4)
            have HV4 := hid (moved_ge hm4 HWB.out (by have := HKa.out.size; omega))
            have hc1 := HB4.out.cell (i := 1) rfl
            have hc2 := HB4.out.cell (i := 2) rfl
            have hc3 := HB4.out.cell (i := 3) rfl
            have hqlt := HI.out.row.lt
            clear hw4 hk4 hm4
            go_wp2_with fail
            refine (ready_any p q xs gg ys bb HR.out _ HI4.out).mono ?_
            rintro e w5 ⟨rfl, hi5, hk5⟩
            have HI5 := hid hi5
            have HW5 := hid (HW4.out.kp hk5 (fun b hb e => Sl.ne HW4.out HI4.out.row (by decide) (by rw [hb, e])))
            have HB5 := hid (hk5.blk HB4.out (by omega))
            have HK5 := hid (HK4.out.trans hk5 (by intro i hi he; omega))
            clear hi5 hk5 hc1 hc2 hc3 hqlt
            go_wp2_with fail
            go_meet
            exact ⟨_, ys, rfl, rfl, HI5.out, HW5.out, HV4.out, HK5.out, HB5.out⟩
          have k1 : (kd == 1) = false := by simpa using h1
          clear h1
          by_cases h2 : kd = 2
          · have k2 : (kd == 2) = true := by simpa using h2
            clear h2
            obtain ⟨ys, bb, hr⟩ : ∃ ys bb, endR xs gg = (ys, bb) := ⟨_, _, rfl⟩
            have HR := hid hr
            clear hr
            go_wp2_with fail
            refine (refEnd_any u6 xs gg ys bb HR.out _ HWa.out hle).mono ?_
            rintro e w4 ⟨wv4, rfl, hw4, hk4, hm4⟩
            have HI4 := hid (HIa.out.kpN hk4)
            have HB4 := hid (HB.out.kp' hk4)
            have HW4 := hid hw4
            have HK4 := hid (HKa.out.trans' hk4)
            have HV4 := hid (moved_ge hm4 HWB.out (by have := HKa.out.size; omega))
            have hc1 := HB4.out.cell (i := 1) rfl
            have hc2 := HB4.out.cell (i := 2) rfl
            have hc3 := HB4.out.cell (i := 3) rfl
            have hqlt := HI.out.row.lt
            clear hw4 hk4 hm4
            go_wp2_with fail
            refine (end_any p q xs gg ys bb HR.out _ HI4.out).mono ?_
            rintro e w5 ⟨rfl, hi5, hk5⟩
            have HI5 := hid hi5
            have HW5 := hid (HW4.out.kp hk5 (fun b hb e => Sl.ne HW4.out HI4.out.row (by decide) (by rw [hb, e])))
            have HB5 := hid (hk5.blk HB4.out (by omega))
            have HK5 := hid (HK4.out.trans hk5 (by intro i hi he; omega))
            clear hi5 hk5 hc1 hc2 hc3 hqlt
            go_wp2_with fail
            go_meet
            exact ⟨_, ys, rfl, rfl, HI5.out, HW5.out, HV4.out, HK5.out, HB5.out⟩
          have k2 : (kd == 2) = false := by simpa using h2
          clear h2
          by_cases h3 : kd = 3
          · have k3 : (kd == 3) = true := by simpa using h3
            clear h3
            obtain ⟨ys, bb, hr⟩ : ∃ ys bb, setR xs gg st tk = (ys, bb) := ⟨_, _, rfl⟩
            have HR := hid hr
            clear hr
            go_wp2_with fail
            refine (refSet_any u6 xs gg st tk ys bb HR.out _ HWa.out hle).mono ?_
            rintro e w4 ⟨wv4, rfl, hw4, hk4, hm4⟩
            have HI4 := hid (HIa.out.kpN hk4)
            have HB4 := hid (HB.out.kp' hk4)
            have HW4 := hid hw4
            have HK4 := hid (HKa.out.trans' hk4)
            have HV4 := hid (moved_ge hm4 HWB.out (by have := HKa.out.size; omega))
            have hc1 := HB4.out.cell (i := 1) rfl
            have hc2 := HB4.out.cell (i := 2) rfl
            have hc3 := HB4.out.cell (i := 3) rfl
            have hqlt := HI.out.row.lt
            clear hw4 hk4 hm4
            go_wp2_with fail
            refine (set_any p q xs gg st tk ys bb HR.out _ HI4.out).mono ?_
            rintro e w5 ⟨rfl, hi5, hk5⟩
            have HI5 := hid hi5
            have HW5 := hid (HW4.out.kp hk5 (fun b hb e => Sl.ne HW4.out HI4.out.row (by decide) (by rw [hb, e])))
            have HB5 := hid (hk5.blk HB4.out (by omega))
            have HK5 := hid (HK4.out.trans hk5 (by intro i hi he; omega))
            clear hi5 hk5 hc1 hc2 hc3 hqlt
            go_wp2_with fail
            go_meet
            exact ⟨_, ys, rfl, rfl, HI5.out, HW5.out, HV4.out, HK5.out, HB5.out⟩
          have k3 : (kd == 3) = false := by simpa using h3
          clear h3
          go_wp2_with fail
          go_meet
          exact ⟨true, xs, rfl, rfl, HIa.out, HWa.out, HWB.out, HKa.out, HB.out⟩
        case rest =>
          obtain ⟨bb, xs', rfl, rfl, hi', hw', ha', hk', hb'⟩ := hcut
          clear HI HW HWB HK HB HIa HWa HKa hle hc0 hc1 hc2 hc3 hs hb'
          have HI := hid hi'
          have HW := hid hw'
          have HWB := hid ha'
          have HK := hid hk'
          have hle := hi'.le
          have hbb : (bb != bb) = false := by simp
          clear hi' hw' ha' hk'
          obtain ⟨so, cap, rfl, _, _⟩ := Sl.form HW.out
          go_wp2_with (first | (go_at_call 42; refine (status_any p q xs' (-1) 2 (seat?_neg xs') _ HI.out).mono ?_; rintro e w' ⟨rfl, hw'⟩; rw [hw']; clear hw') | (go_at_call 43; refine (token_any p q xs' xs'.length false (token_len xs') _ HI.out).mono ?_; rintro e w' ⟨rfl, hw'⟩; rw [hw']; clear hw') | (go_at_call 41; refine (running_any p q xs' _ HI.out).mono ?_; rintro e w5 ⟨v5, rfl, hv5, _, hk5⟩; have HI5 := hid (HI.out.kpN hk5); have HW5 := hid (HW.out.kpN hk5); have HK5 := hid (HK.out.trans' hk5); have HV5 := hid hv5; clear hv5 hk5))
          obtain ⟨so5, cap5, rfl, _, _⟩ := Sl.form HV5.out
          clear hbb HI HW HK
          have HPB : Hid (w.heap.size ≤ q) := hqB
          go_loopw [12, 127] (fun kk i wx => ∃ (j : Nat), j ≤ xs'.length ∧ i = .int .i64 j ∧ kk = .int .i64 ((runP xs' j).length : Nat) ∧ IsBench wx p q xs' ∧ Seats wx (.slice so xs'.length cap) xs' ∧ Ints wx (.slice so5 (runP xs' xs'.length).length cap5) (runP xs' xs'.length) ∧ Kp No w wx) (fun _ i _ => xs'.length - (intOf i).toNat)
          case atStart => exact ⟨0, Nat.zero_le _, rfl, rfl, HI5.out, HW5.out, HV5.out, HK5.out⟩
          case round =>
            clear HI5 HW5 HV5 HK5
            obtain ⟨j, hj, rfl, rfl, hi, hw, hv, hkp⟩ := hrel
            have HI := hid hi
            have HW := hid hw
            have HV := hid hv
            have HK := hid hkp
            clear hi hw hv hkp
            have hr1 := runP_mono xs' hj
            have hr2 := length_runP xs' xs'.length
            by_cases hjt : j < xs'.length
            · obtain ⟨g, rfl⟩ := Sl.at_ HW.out (by omega)
              have hx : xs'[j]? = some xs'[j] := by simp [hjt]
              have hcs := Seats.status HW.out rfl hx
              have hct := Seats.token HW.out rfl hx
              have HS : Hid (statusX xs' (j : Int) = xs'[j].1) := by unfold statusX; rw [seat?_nat, hx]; rfl
              have HT : Hid (tokenX xs' (j : Int) = xs'[j].2) := by unfold tokenX; rw [seat?_nat, hx]; rfl
              have hb0 : isB xs' (j : Int) 0 = (xs'[j].1 == 0) := by unfold isB; rw [seat?_nat, hx]
              have hstat : (xs'[j].1 != xs'[j].1) = false := by simp
              have htok : (xs'[j].2 != xs'[j].2) = false := by simp
              have HB0 := hid hb0
              clear hx hb0
              generalize xs'[j].1 = st' at *
              generalize xs'[j].2 = tk' at *
              cases hz : (st' == 0) with
              | true =>
                have hb1 := HB0.out
                rw [hz] at hb1
                have hg := runP_get xs' hjt hb1
                have hl1 := runP_len_succ xs' j true hb1
                have hlm := runP_mono xs' (show j + 1 ≤ xs'.length by omega)
                rw [hl1] at hlm
                obtain ⟨g5, rfl⟩ := Sl.at_ HV.out (by simp at hlm; omega)
                have hc5 := Sl.cell HV.out (j := (runP xs' j).length) (u := .int .i64 j) (by simp [hg])
                have HL1 := hid hl1
                simp at hlm
                clear hb1 hg hl1 hr1
                generalize (runP xs' j).length = a at *
                generalize (runP xs' xs'.length).length = bn at *
                have hc6 := (Kp.alloc No wr (.cells [Value.int .i64 st', .bool tk'].toArray 78)).cell hc5 id
                clear hc5
                go_wp2_with fail
                go_quiet ((first | (go_at_call 42; exact Calls.quiet_of_same (status_any p q xs' j st' HS.out _ (HI.out.kpN ((Kp.alloc No _ _).trans' (Kp.drewN No _ _))))) | (go_at_call 43; exact Calls.quiet_of_same (token_any p q xs' j tk' HT.out _ (HI.out.kpN ((Kp.alloc No _ _).trans' (Kp.drewN No _ _)))))))
                go_wp2
                go_roundw
                case rel => exact ⟨j + 1, by omega, by go_num, by rw [HL1.out]; go_num, HI.out.kpN ((Kp.alloc No _ _).trans' (Kp.drewN No _ _)), HW.out.kpN ((Kp.alloc No _ _).trans' (Kp.drewN No _ _)), Ints.kpN HV.out ((Kp.alloc No _ _).trans' (Kp.drewN No _ _)), HK.out.trans' ((Kp.alloc No _ _).trans' (Kp.drewN No _ _))⟩
                case measure => simp [intOf]; omega
              | false =>
                have hb1 := HB0.out
                rw [hz] at hb1
                have hl1 := runP_len_succ xs' j false hb1
                have HL1 := hid hl1
                clear hb1 hl1 hr1
                generalize (runP xs' j).length = a at *
                generalize (runP xs' xs'.length).length = bn at *
                go_wp2_with fail
                go_quiet ((first | (go_at_call 42; exact Calls.quiet_of_same (status_any p q xs' j st' HS.out _ (HI.out.kpN ((Kp.alloc No _ _).trans' (Kp.drewN No _ _))))) | (go_at_call 43; exact Calls.quiet_of_same (token_any p q xs' j tk' HT.out _ (HI.out.kpN ((Kp.alloc No _ _).trans' (Kp.drewN No _ _)))))))
                go_wp2
                go_roundw
                case rel => exact ⟨j + 1, by omega, by go_num, by rw [HL1.out]; go_num, HI.out.kpN ((Kp.alloc No _ _).trans' (Kp.drewN No _ _)), HW.out.kpN ((Kp.alloc No _ _).trans' (Kp.drewN No _ _)), Ints.kpN HV.out ((Kp.alloc No _ _).trans' (Kp.drewN No _ _)), HK.out.trans' ((Kp.alloc No _ _).trans' (Kp.drewN No _ _))⟩
                case measure => simp [intOf]; omega
            · have hjj : j = xs'.length := by omega
              have hrr : (((runP xs' j).length : Int) != (runP xs' xs'.length).length) = false := by rw [hjj]; simp
              clear hjj
              go_wp2
              go_roundw
              case rel => exact ⟨k + 1, xs', by omega, by go_num, HI.out, HW.out, HWB.out, HK.out⟩
              case measure => simp [intOf]; omega
      · go_wp2
        go_ret
        exact ⟨rfl, HK.out⟩
end Go.Proofs.Ytijpdeanbkodkaa
