/-
  The walk of the law RingRuns.
-/
import Derived.Test.YtijpdeanbkodkaaRingOf
import Derived.Test.YtijpdeanbkodkaaRead2
import Derived.Deep.DeepCutAuto
import Derived.Deep.CutBlock
namespace Go.Proofs.Ytijpdeanbkodkaa
open Go.RowKit
set_option maxRecDepth 100000

set_option maxHeartbeats 4000000 in
theorem ringRuns_walk (x : Int) (a1 : Option Addr) (n1 c1 : Nat) (l : List Int) (a2 : Option Addr) (n2 c2 : Nat) (acts : List (Int × Int)) (w : World) (hx : (Lit.int .u8 x).wf = true) (hl : SrcW .i64 w a1 n1 l) (hz1 : a1 = none → c1 = 0) (ha : Acts2 w a2 n2 acts) (_ : a2 = none → c2 = 0) :
    Calls Try.prog 11 #[.int .u8 x, .slice a1 n1 c1, .slice a2 n2 c2] w fun e w' => e = .returned (.bool true) ∧ Kp No w w' := by
  have HL := hid hl.1
  obtain rfl := hl.1.1
  have HA := hid ha
  obtain rfl := ha.1
  have HZ := hid hz1
  clear hl ha hz1
  have hx0 : 0 ≤ x ∧ x ≤ 255 := by simp only [Lit.wf, Bool.and_eq_true, decide_eq_true_eq] at hx; exact hx
  obtain ⟨hx1, hx2⟩ := hx0
  obtain ⟨X, rfl⟩ := Int.eq_ofNat_of_zero_le hx1
  obtain ⟨N, hN⟩ : ∃ N, N = X % 65 := ⟨_, rfl⟩
  have hN64 : N ≤ 64 := by omega
  have htm : (X : Int).tmod 65 = (N : Int) := by rw [hN]; rfl
  clear hx hN
  by_cases hlen : 300 < acts.length
  · go_enter Try.func11, Try.ntmps11
    go_wp2_with (go_at_call 44; refine (alive_ring _).mono ?_; rintro e w1 ⟨rfl, hk⟩; have HK := hid hk; clear hk)
    go_ret
    exact ⟨rfl, HK.out⟩
  by_cases hln : N < l.length
  · go_enter Try.func11, Try.ntmps11
    go_wp2_with (go_at_call 44; refine (alive_ring _).mono ?_; rintro e w1 ⟨rfl, hk⟩; have HK := hid hk; clear hk)
    go_ret
    exact ⟨rfl, HK.out⟩
  go_enter Try.func11, Try.ntmps11
  go_wp2_with fail
  refine (alive_ring _).mono ?_
  rintro e w1 ⟨rfl, hk⟩
  have HK := hid hk
  clear hk
  go_wp2_with fail
  refine (of_ring N hN64 a1 c1 l (by omega) _ (HL.out.kp HK.out (fun _ _ => id))).mono ?_
  rintro e w2 ⟨p, q, rfl, hi, hp, hq, hk⟩
  have HK2 := hid (HK.out.trans' hk)
  have hs1 := HK.out.size
  have hpB : w.heap.size ≤ p := by omega
  have hqB : w.heap.size ≤ q := by omega
  have HI := hid hi
  have hpq := hi.ltp
  obtain ⟨hpl, hql⟩ := hpq
  clear hi hk hp hq HK hs1
  go_wp2_with (at_builtin; refine wpl_append rfl (.tmp 43) (.tmp 44) 55 rfl el55 (.slice (some ⟨w2.heap.size, 0, none⟩) 0 0) 0 [] rfl (Sl.of_blk (Blk.new _ _ []) 1 0 rfl (by decide)) a1 l.length c1 (l.map (Value.int .i64)) rfl (by simp) (by have := ((HL.out.kp HK2.out (fun _ _ => id)).kp (Kp.alloc No w2 (.cells #[] 2)) (fun _ _ => id)).ints; simpa using this) (ints_oneCell _ _) (by unfold maxLen; omega) (by omega) HZ.out ?_; intro v1 w3 hv hk hm; have HV := hid (show Row w3 v1 l by unfold Row; simpa using hv); have HK3' := hid ((Kp.alloc No w2 _).trans hk (by intro i hi he; simp [Value.ownBlock] at he; omega)); have HB := hid (moved_ge hm (B := w2.heap.size) (by intro k hk; simp [Value.ownBlock] at hk; omega) (by simp)); clear hv hk hm)
  have HI3 := hid (HI.out.kpN HK3'.out)
  have HK3 := hid (HK2.out.trans' HK3'.out)
  have hs3 := HK3'.out.size
  clear HI HK3' HK2
  go_loopw [10, 48] (fun wv i wr => ∃ (k : Nat) (row : List Int), k ≤ acts.length ∧ i = .int .i64 k ∧ IsRing wr p q N row ∧ Row wr wv row ∧ (∀ b, wv.ownBlock = some b → w2.heap.size ≤ b) ∧ w2.heap.size ≤ wr.heap.size ∧ Kp No w wr) (fun _ i _ => acts.length - (intOf i).toNat)
  case atStart => exact ⟨0, l, Nat.zero_le _, rfl, HI3.out, HV.out, HB.out, hs3, HK3.out⟩
  case round =>
    clear HI3 HV HB HK3 hs3
    obtain ⟨k, row, hk, rfl, hi, hw, hv, hs, hkp⟩ := hrel
    have HI := hid hi
    have HW := hid hw
    have HV := hid hv
    have HK := hid hkp
    have hle := hi.len
    clear hi hw hv hkp
    by_cases hlt : k < acts.length
    · obtain ⟨b, o, rfl, hc⟩ := HA.out.2 (by omega)
      obtain ⟨hd0, hd1⟩ := hc k acts[k] (by simp [hlt])
      have hc0 := HK.out.cell hd0 id
      have hc1 := HK.out.cell hd1 id
      clear hd0 hd1 hc
      generalize acts[k].1 = kd at *
      generalize acts[k].2 = vv at *
      have ha := Blk.new wr 82 [.int .i64 kd, .int .i64 vv]
      have HB := hid ha
      have HIa := hid (HI.out.kpN (Kp.alloc No wr _) : IsRing (wr.alloc (.cells [Value.int .i64 kd, .int .i64 vv].toArray 82)) p q N row)
      have HWa := hid (HW.out.kpN (Kp.alloc No wr _) : Row (wr.alloc (.cells [Value.int .i64 kd, .int .i64 vv].toArray 82)) u10 row)
      have HKa := hid (HK.out.trans' (Kp.alloc No wr (.cells [Value.int .i64 kd, .int .i64 vv].toArray 82)))
      clear ha
      go_upto_block 2 with (fail)
      go_cut [10, 13, 14, 15, 16] (fun wv v ok x is wx => ∃ (y : Int) (b : Bool) (ys : List Int), v = .int .i64 y ∧ x = .int .i64 y ∧ ok = .bool b ∧ is = .bool b ∧ IsRing wx p q N ys ∧ Row wx wv ys ∧ (∀ b, wv.ownBlock = some b → w2.heap.size ≤ b) ∧ w2.heap.size ≤ wx.heap.size ∧ Kp No w wx)
      case first =>
        by_cases h0 : kd = 0
        · have k0 : (kd == 0) = true := by simpa using h0
          clear h0
          obtain ⟨ys, b, hr⟩ : ∃ ys b, putR N row vv = (ys, b) := ⟨_, _, rfl⟩
          have HR := hid hr
          clear hr
          go_wp2_with fail
          refine (refPut04 u10 N row vv ys b HR.out _ HWa.out (by omega)).mono ?_
          rintro e w4 ⟨wv4, rfl, hw4, hk4, hm4⟩
          have HI4 := hid (HIa.out.kpN hk4)
          have HB4 := hid (HB.out.kp' hk4)
          have HW4 := hid hw4
          have HK4 := hid (HKa.out.trans' hk4)
          have HV4 := hid (hm4 w2.heap.size HV.out (by simp; omega))
          have hc1 := HB4.out.cell (i := 1) rfl
          have hs4 : w2.heap.size ≤ w4.heap.size := by have := hk4.size; simp at this; omega
          clear hw4 hk4 hm4
          go_wp2_with fail
          refine (put_any p q N row vv ys b HR.out _ HI4.out).mono ?_
          rintro e w5 ⟨rfl, hi5, hk5⟩
          have HI5 := hid hi5
          have HW5 := hid (HW4.out.kp hk5 (fun b hb e => by have := HV4.out b hb; rcases e with e | e <;> omega))
          have HK5 := hid (HK4.out.trans hk5 (by intro i hi he; rcases he with he | he <;> omega))
          have hs5 := hk5.size
          clear hi5 hk5 hc1
          go_wp2_with fail
          go_meet
          exact ⟨0, b, ys, rfl, rfl, rfl, rfl, HI5.out, HW5.out, HV4.out, by omega, HK5.out⟩
        have k0 : (kd == 0) = false := by simpa using h0
        clear h0
        by_cases h1 : kd = 1
        · have k1 : (kd == 1) = true := by simpa using h1
          clear h1
          obtain ⟨ys, y, b, hr⟩ : ∃ ys y b, getR row = (ys, y, b) := ⟨_, _, _, rfl⟩
          have HR := hid hr
          clear hr
          go_wp2_with fail
          refine (refGet04 u10 row ys y b HR.out _ HWa.out (by omega)).mono ?_
          rintro e w4 ⟨wv4, rfl, hw4, hk4, hm4⟩
          have HI4 := hid (HIa.out.kpN hk4)
          have HB4 := hid (HB.out.kp' hk4)
          have HW4 := hid hw4
          have HK4 := hid (HKa.out.trans' hk4)
          have HV4 := hid (hm4 w2.heap.size HV.out (by simp; omega))
          have hc1 := HB4.out.cell (i := 1) rfl
          have hs4 : w2.heap.size ≤ w4.heap.size := by have := hk4.size; simp at this; omega
          clear hw4 hk4 hm4
          go_wp2_with fail
          refine (get_any p q N row ys y b HR.out _ HI4.out).mono ?_
          rintro e w5 ⟨rfl, hi5, hk5⟩
          have HI5 := hid hi5
          have HW5 := hid (HW4.out.kp hk5 (fun b hb e => by have := HV4.out b hb; rcases e with e | e <;> omega))
          have HK5 := hid (HK4.out.trans hk5 (by intro i hi he; rcases he with he | he <;> omega))
          have hs5 := hk5.size
          clear hi5 hk5 hc1
          go_wp2_with fail
          go_meet
          exact ⟨y, b, ys, rfl, rfl, rfl, rfl, HI5.out, HW5.out, HV4.out, by omega, HK5.out⟩
        have k1 : (kd == 1) = false := by simpa using h1
        clear h1
        by_cases h2 : kd = 2
        · have k2 : (kd == 2) = true := by simpa using h2
          clear h2
          obtain ⟨ys, y, b, hr⟩ : ∃ ys y b, passR N row vv = (ys, y, b) := ⟨_, _, _, rfl⟩
          have HR := hid hr
          clear hr
          go_wp2_with fail
          refine (refPass04 u10 N row vv ys y b HR.out _ HWa.out (by omega)).mono ?_
          rintro e w4 ⟨wv4, rfl, hw4, hk4, hm4⟩
          have HI4 := hid (HIa.out.kpN hk4)
          have HB4 := hid (HB.out.kp' hk4)
          have HW4 := hid hw4
          have HK4 := hid (HKa.out.trans' hk4)
          have HV4 := hid (hm4 w2.heap.size HV.out (by simp; omega))
          have hc1 := HB4.out.cell (i := 1) rfl
          have hs4 : w2.heap.size ≤ w4.heap.size := by have := hk4.size; simp at this; omega
          clear hw4 hk4 hm4
          go_wp2_with fail
          refine (pass_any p q N row vv ys y b HR.out _ HI4.out).mono ?_
          rintro e w5 ⟨rfl, hi5, hk5⟩
          have HI5 := hid hi5
          have HW5 := hid (HW4.out.kp hk5 (fun b hb e => by have := HV4.out b hb; rcases e with e | e <;> omega))
          have HK5 := hid (HK4.out.trans hk5 (by intro i hi he; rcases he with he | he <;> omega))
          have hs5 := hk5.size
          clear hi5 hk5 hc1
          go_wp2_with fail
          go_meet
          exact ⟨y, b, ys, rfl, rfl, rfl, rfl, HI5.out, HW5.out, HV4.out, by omega, HK5.out⟩
        have k2 : (kd == 2) = false := by simpa using h2
        clear h2
        go_wp2_with fail
        go_meet
        exact ⟨0, true, row, rfl, rfl, rfl, rfl, HIa.out, HWa.out, HV.out, by simp; omega, HKa.out⟩
      case rest =>
        obtain ⟨y, bb, ys, rfl, rfl, rfl, rfl, hi', hw', hv', hs', hk'⟩ := hcut
        clear HI HW HV HK HB HIa HWa HKa hle hc0 hc1 hs
        have HI := hid hi'
        have HW := hid hw'
        have HV := hid hv'
        have HK := hid hk'
        have hle := hi'.len
        have hbb : (bb != bb) = false := by simp
        have hyy : (y != y) = false := by simp
        have hll : ((ys.length : Int) != (ys.length : Int)) = false := by simp
        have hff : (((ys.length : Int) == (N : Int)) != ((ys.length : Int) == (N : Int))) = false := by simp
        clear hi' hw' hv' hk'
        obtain ⟨so, cap, rfl, hsrc⟩ := HW.out.src
        have HS := hid hsrc
        clear hsrc
        go_wp2_with fail
        refine (len_ring p q N ys _ HI.out).mono ?_
        rintro e w' ⟨rfl, hw'⟩
        rw [hw']; clear hw' w'
        go_wp2_with fail
        refine (full_ring p q N ys _ rfl _ HI.out).mono ?_
        rintro e w' ⟨rfl, m, hw'⟩
        rw [hw']; clear hw' w'
        go_wp2_with fail
        refine (all_ring p q N ys _ (HI.out.kpN (Kp.drewN _ _ _))).mono ?_
        rintro e w5 ⟨v5, rfl, hv5, _, hk5⟩
        have HI5 := hid (HI.out.kpN ((Kp.drewN _ _ m).trans' hk5))
        have HW5 := hid (HW.out.kpN ((Kp.drewN _ _ m).trans' hk5))
        have HK5 := hid (HK.out.trans' ((Kp.drewN _ _ m).trans' hk5))
        have HV5 := hid hv5
        have hs5 := hk5.size
        simp at hs5
        clear hv5 hk5
        go_wp2_with fail
        refine (same04_rows v5 _ ys _ HV5.out HW5.out (by omega)).mono ?_
        rintro e w6 ⟨rfl, m6, hw6⟩
        rw [hw6]; clear hw6 w6
        go_wp2_with fail
        go_roundw
        case rel => exact ⟨k + 1, ys, by omega, by go_num, HI5.out.kpN (Kp.drewN _ _ _), HW5.out.kpN (Kp.drewN _ _ _), HV.out, by simp; omega, HK5.out.trans' (Kp.drewN _ _ _)⟩
        case measure => simp [intOf]; omega
    · go_wp2
      go_ret
      exact ⟨rfl, HK.out⟩
end Go.Proofs.Ytijpdeanbkodkaa
