/-
  The contracts of the reference of package latch, and of the reference's comparison of two rows.
-/
import Derived.Test.YtijpdeanbkodkaaLatch
namespace Go.Proofs.Ytijpdeanbkodkaa
open Go.RowKit
set_option maxRecDepth 100000

theorem Ints.source {w w' : World} {so : Option Addr} {n c : Nat} {xs : List Int} (h : Ints w (.slice so n c) xs) (hk : Kp No w w') : 0 < xs.length → ∃ ad, so = some ad ∧ ∀ j u, (xs.map (Value.int .i64))[j]? = some u → w'.cell? (ad.add j) = some u := by
  intro h0
  obtain ⟨g, cap, he, _⟩ := Sl.shape h h0
  simp at he
  obtain ⟨rfl, rfl, rfl⟩ := he
  exact ⟨_, rfl, Sl.source (Ints.kpN h hk)⟩

set_option maxHeartbeats 400000 in
theorem refOwner_any (v : Value) (xs : List Int) (l : Int) (w : World) (h : Ints w v xs) (hle : xs.length ≤ 4096) :
    Calls Try.prog 33 #[v, .int .i64 l] w fun e w' => e = .returned (.int .i64 (ownerL xs l)) ∧ w' = w := by
  obtain ⟨so, cap, rfl, _, _⟩ := h.form
  by_cases h0 : l < 0
  · rw [show ownerL xs l = -1 from if_neg (by omega)]
    clear h
    go_enter Try.func33, Try.ntmps33
    go_wp2
    go_ret
    exact ⟨rfl, rfl⟩
  by_cases h1 : l < xs.length
  · rw [show ownerL xs l = xs[l.toNat]?.getD 0 from if_pos ⟨by omega, h1⟩]
    obtain ⟨g, rfl⟩ := Sl.at_ h (by omega)
    have hc := Sl.cell h (j := l.toNat) (u := .int .i64 (xs[l.toNat]?.getD 0)) (by simp [show l.toNat < xs.length by omega])
    generalize xs[l.toNat]?.getD 0 = x at *
    clear h
    go_enter Try.func33, Try.ntmps33
    go_wp2
    go_ret
    exact ⟨rfl, rfl⟩
  · rw [show ownerL xs l = -1 from if_neg (by omega)]
    clear h
    go_enter Try.func33, Try.ntmps33
    go_wp2
    go_ret
    exact ⟨rfl, rfl⟩

set_option maxHeartbeats 400000 in
theorem refSet_any (v : Value) (xs : List Int) (l who : Int) (w : World) (h : Ints w v xs) (hle : xs.length ≤ 4096) (h0 : 0 ≤ l) (h1 : l < xs.length) :
    Calls Try.prog 82 #[v, .int .i64 l, .int .i64 who] w fun e w' => ∃ v', e = .returned v' ∧ Ints w' v' (xs.set l.toNat who) ∧ Kp No w w' ∧ (∀ b, v'.ownBlock = some b → w.heap.size ≤ b) := by
  obtain ⟨so, cap, rfl, _, hc⟩ := h.form
  obtain ⟨g, rfl⟩ := Sl.at_ h (by omega)
  have H := hid h
  clear h hc
  go_enter Try.func82, Try.ntmps82
  go_wp2_with (at_builtin; refine wpl_append rfl (.tmp 8) (.tmp 9) 23 rfl el23 (.slice (some ⟨w.heap.size, 0, none⟩) 0 0) 0 [] rfl (Sl.of_blk (Blk.new _ _ []) 1 0 rfl (by decide)) (some ⟨g, 0, none⟩) xs.length cap (xs.map (Value.int .i64)) rfl (by simp) (fun _ => ⟨_, rfl, Sl.source (Sl.kp (Kp.alloc No _ _) H.out (fun _ _ => id))⟩) (ints_oneCell _ _) (by unfold maxLen; omega) (by omega) (fun e => by cases e) ?_; intro v1 w1 hv hk hm; have HV := hid (show Ints w1 v1 xs by unfold Ints; simpa using hv); have HK := hid ((Kp.alloc No w _).trans hk (by intro i hi he; simp [Value.ownBlock] at he; omega)); have HB := hid (moved_ge hm (B := w.heap.size) (by intro k hk; simp [Value.ownBlock] at hk; omega) (by simp)); clear hv hk hm; obtain ⟨so1, cap1, rfl, _, _⟩ := Sl.form HV.out; obtain ⟨g1, rfl⟩ := Sl.at_ HV.out (by omega); have hc := Sl.cell HV.out (j := l.toNat) (u := .int .i64 (xs[l.toNat]?.getD 0)) (by simp [show l.toNat < xs.length by omega]); have hf := Sl.frozen HV.out l.toNat)
  go_ret
  refine ⟨_, rfl, ?_, HK.out.trans (Kp.setCell (S := (· = g1)) _ _ _ (fun _ => rfl)) (by intro i hi he; have := HB.out g1 rfl; omega), HB.out⟩
  · have := Sl.set HV.out l.toNat (.int .i64 who)
    unfold Ints
    rw [List.map_set, List.length_set]
    exact this

set_option maxHeartbeats 1000000 in
theorem refTry_any (v : Value) (xs : List Int) (l who : Int) (w : World) (h : Ints w v xs) (hle : xs.length ≤ 4096) :
    Calls Try.prog 29 #[v, .int .i64 l, .int .i64 who] w fun e w' => ∃ v', e = .returned (.tuple #[v', .bool (tryB xs l who)]) ∧ Ints w' v' (tryS xs l who) ∧ Kp No w w' ∧ Moved w v v' := by
  obtain ⟨so, cap, rfl, _, hcc⟩ := h.form
  have H := hid h
  have no : tryB xs l who = false → Calls Try.prog 29 #[.slice so xs.length cap, .int .i64 l, .int .i64 who] w (fun e w' => e = .returned (.tuple #[.slice so xs.length cap, .bool false]) ∧ w = w') →
      Calls Try.prog 29 #[.slice so xs.length cap, .int .i64 l, .int .i64 who] w fun e w' => ∃ v', e = .returned (.tuple #[v', .bool (tryB xs l who)]) ∧ Ints w' v' (tryS xs l who) ∧ Kp No w w' ∧ Moved w (.slice so xs.length cap) v' := by
    intro hb hc
    rw [hb, tryS_false hb]
    refine hc.mono ?_
    rintro e w' ⟨rfl, rfl⟩
    exact ⟨_, rfl, H.out, Kp.refl _ _, .inl rfl⟩
  by_cases h0 : l < 0
  · refine no (by unfold tryB ; simp; omega) ?_
    clear h no hcc
    go_enter Try.func29, Try.ntmps29
    go_wp2
    go_ret2
    exact ⟨rfl, rfl⟩
  by_cases h1 : l < xs.length
  · by_cases h2 : who < 0
    · refine no (by unfold tryB ; simp; omega) ?_
      clear h no hcc
      go_enter Try.func29, Try.ntmps29
      go_wp2
      go_ret2
      exact ⟨rfl, rfl⟩
    obtain ⟨g, rfl⟩ := Sl.at_ h (by omega)
    have hc := Sl.cell h (j := l.toNat) (u := .int .i64 (xs[l.toNat]?.getD 0)) (by simp [show l.toNat < xs.length by omega])
    by_cases h3 : xs[l.toNat]?.getD 0 = -1
    · have hb : tryB xs l who = true := by unfold tryB ; simp; omega
      have e2 : tryS xs l who = xs.set l.toNat who := by unfold tryS; rw [hb]; rfl
      rw [hb, e2]
      have h4 : (xs[l.toNat]?.getD 0 != -1) = false := by simpa using h3
      generalize xs[l.toNat]?.getD 0 = x at *
      clear h no h3 hb e2 hcc
      go_enter Try.func29, Try.ntmps29
      go_wp2_with (go_at_call 82; refine (refSet_any _ xs l who _ H.out hle (by omega) h1).mono ?_; rintro e w' ⟨v', rfl, hi, hk, hb⟩; have HI := hid hi; have HK := hid hk; have HB := hid hb; clear hi hk hb)
      go_ret2
      refine ⟨_, rfl, HI.out, HK.out, ?_⟩
      rcases hv : v'.ownBlock with _ | b
      · have h5 := HI.out.1
        have := Sl.shape HI.out (by simp; omega)
        obtain ⟨g', c', he, _⟩ := this
        rw [he] at hv; cases hv
      · exact .inr ⟨b, hv, HB.out b hv⟩
    · refine no (by unfold tryB ; simp; omega) ?_
      have h4 : (xs[l.toNat]?.getD 0 != -1) = true := by simpa using h3
      generalize xs[l.toNat]?.getD 0 = x at *
      clear h no h3 hcc
      go_enter Try.func29, Try.ntmps29
      go_wp2
      go_ret2
      exact ⟨rfl, rfl⟩
  · refine no (by unfold tryB ; simp; omega) ?_
    clear h no hcc
    go_enter Try.func29, Try.ntmps29
    go_wp2
    go_ret2
    exact ⟨rfl, rfl⟩

set_option maxHeartbeats 1000000 in
theorem refFree_any (v : Value) (xs : List Int) (l who : Int) (w : World) (h : Ints w v xs) (hle : xs.length ≤ 4096) :
    Calls Try.prog 30 #[v, .int .i64 l, .int .i64 who] w fun e w' => ∃ v', e = .returned (.tuple #[v', .bool (freeB xs l who)]) ∧ Ints w' v' (freeS xs l who) ∧ Kp No w w' ∧ Moved w v v' := by
  obtain ⟨so, cap, rfl, _, hcc⟩ := h.form
  have H := hid h
  have no : freeB xs l who = false → Calls Try.prog 30 #[.slice so xs.length cap, .int .i64 l, .int .i64 who] w (fun e w' => e = .returned (.tuple #[.slice so xs.length cap, .bool false]) ∧ w = w') →
      Calls Try.prog 30 #[.slice so xs.length cap, .int .i64 l, .int .i64 who] w fun e w' => ∃ v', e = .returned (.tuple #[v', .bool (freeB xs l who)]) ∧ Ints w' v' (freeS xs l who) ∧ Kp No w w' ∧ Moved w (.slice so xs.length cap) v' := by
    intro hb hc
    rw [hb, freeS_false hb]
    refine hc.mono ?_
    rintro e w' ⟨rfl, rfl⟩
    exact ⟨_, rfl, H.out, Kp.refl _ _, .inl rfl⟩
  by_cases h0 : l < 0
  · refine no (by unfold freeB ownerL; simp; omega) ?_
    clear h no hcc
    go_enter Try.func30, Try.ntmps30
    go_wp2
    go_ret2
    exact ⟨rfl, rfl⟩
  by_cases h1 : l < xs.length
  · by_cases h2 : who < 0
    · refine no (by unfold freeB ownerL; simp; omega) ?_
      clear h no hcc
      go_enter Try.func30, Try.ntmps30
      go_wp2
      go_ret2
      exact ⟨rfl, rfl⟩
    obtain ⟨g, rfl⟩ := Sl.at_ h (by omega)
    have hc := Sl.cell h (j := l.toNat) (u := .int .i64 (xs[l.toNat]?.getD 0)) (by simp [show l.toNat < xs.length by omega])
    by_cases h3 : xs[l.toNat]?.getD 0 = who
    · have hb : freeB xs l who = true := by unfold freeB ownerL; simp; omega
      have e2 : freeS xs l who = xs.set l.toNat (-1) := by unfold freeS; rw [hb]; rfl
      rw [hb, e2]
      have h4 : (xs[l.toNat]?.getD 0 != who) = false := by simpa using h3
      generalize xs[l.toNat]?.getD 0 = x at *
      clear h no h3 hb e2 hcc
      go_enter Try.func30, Try.ntmps30
      go_wp2_with (go_at_call 82; refine (refSet_any _ xs l (-1) _ H.out hle (by omega) h1).mono ?_; rintro e w' ⟨v', rfl, hi, hk, hb⟩; have HI := hid hi; have HK := hid hk; have HB := hid hb; clear hi hk hb)
      go_ret2
      refine ⟨_, rfl, HI.out, HK.out, ?_⟩
      rcases hv : v'.ownBlock with _ | b
      · have h5 := HI.out.1
        have := Sl.shape HI.out (by simp; omega)
        obtain ⟨g', c', he, _⟩ := this
        rw [he] at hv; cases hv
      · exact .inr ⟨b, hv, HB.out b hv⟩
    · refine no (by unfold freeB ownerL; simp; omega) ?_
      have h4 : (xs[l.toNat]?.getD 0 != who) = true := by simpa using h3
      generalize xs[l.toNat]?.getD 0 = x at *
      clear h no h3 hcc
      go_enter Try.func30, Try.ntmps30
      go_wp2
      go_ret2
      exact ⟨rfl, rfl⟩
  · refine no (by unfold freeB ownerL; simp; omega) ?_
    clear h no hcc
    go_enter Try.func30, Try.ntmps30
    go_wp2
    go_ret2
    exact ⟨rfl, rfl⟩

set_option maxHeartbeats 1000000 in
theorem refHeld_any (v0 : Value) (xs : List Int) (who : Int) (w : World) (h : Ints w v0 xs) (hle : xs.length ≤ 4096) :
    Calls Try.prog 35 #[v0, .int .i64 who] w fun e w' => ∃ v, e = .returned v ∧ Ints w' v (heldP xs who xs.length) ∧ (∀ b, v.ownBlock = some b → w.heap.size ≤ b) ∧ Kp No w w' := by
  obtain ⟨so, cap, rfl, _, _⟩ := h.form
  have H := hid h
  clear h
  go_enter Try.func35, Try.ntmps35
  go_wp2
  go_loopw [5, 11] (fun v i wr => ∃ (k : Nat), k ≤ xs.length ∧ i = .int .i64 k ∧ Ints wr v (heldP xs who k) ∧ (∀ b, v.ownBlock = some b → w.heap.size ≤ b) ∧ Kp No w wr) (fun _ i _ => xs.length - (intOf i).toNat)
  case atStart => exact ⟨0, Nat.zero_le _, rfl, Sl.of_blk (Blk.new w 3 []) 1 0 rfl (by decide), (by intro b hb; simp [Value.ownBlock] at hb; omega), Kp.alloc _ _ _⟩
  case round =>
    obtain ⟨k, hk, rfl, hv, hb, hkp⟩ := hrel
    have HV := hid hv
    have HB := hid hb
    have HK := hid hkp
    clear hv hb hkp
    by_cases hlt : k < xs.length
    · obtain ⟨g, rfl⟩ := Sl.at_ H.out (by omega)
      have hc : wr.cell? ⟨g, k, none⟩ = some (.int .i64 (xs[k]?.getD 0)) := HK.out.cell (Sl.cell H.out (by simp [hlt])) id
      have hx := hid (heldP_succ xs who k)
      have hln := length_heldP xs who k
      generalize xs[k]?.getD 0 = x at *
      by_cases hy : x = who ∧ 0 ≤ who
      · have h1 : (x == who) = true := by simpa using hy.1
        have h2 := hy.2
        have hx1 := hx.out
        rw [if_pos hy] at hx1
        have HX := hid hx1
        clear hx hy hx1
        generalize heldP xs who k = ys at *
        go_wp2_with (at_builtin; refine wpl_append rfl (.tmp 23) (.tmp 25) 23 rfl el23 _ ys.length (ys.map (Value.int .i64)) rfl (Sl.kp (Kp.alloc No _ _) HV.out (fun _ _ => id)) (some ⟨wr.heap.size, 0, none⟩) 1 1 [.int .i64 k] rfl rfl (fun _ => ⟨_, rfl, cell_one_new _ _ _⟩) (by intro u hu; simp at hu; subst hu; rfl) (by unfold maxLen; omega) (by omega) (fun e => by cases e) ?_; intro v' w1 hv hk1 hm; have HV1 := hid hv; have HK1 := hid ((Kp.alloc _ wr _).trans' hk1); have HM := hid (moved_ge hm HB.out (by have := HK.out.size; simp; omega)); clear hv hk1 hm)
        go_roundw
        case rel => exact ⟨k + 1, by omega, by go_num, by rw [HX.out]; unfold Ints; simpa using HV1.out, HM.out, HK.out.trans HK1.out (by intro i hi he; have := HB.out i he; omega)⟩
        case measure => simp [intOf]; omega
      · have hx1 := hx.out
        rw [if_neg hy, List.append_nil] at hx1
        have HX := hid hx1
        clear hx hx1
        rcases (show ((x == who) = false) ∨ ((x == who) = true ∧ who < 0) by (by_cases hxw : x = who; right; exact ⟨by simpa using hxw, by omega⟩; left; simpa using hxw)) with h1 | ⟨h1, h2⟩
        all_goals
          clear hy
          go_wp2
          go_roundw
          case rel => exact ⟨k + 1, by omega, by go_num, by rw [HX.out]; exact HV.out, HB.out, HK.out⟩
          case measure => simp [intOf]; omega
    · go_wp2
      go_ret
      refine ⟨_, rfl, ?_, HB.out, HK.out⟩
      have := HV.out
      rwa [show k = xs.length by omega] at this

set_option maxHeartbeats 1000000 in
theorem refNew07_any (n : Int) (w : World) :
    Calls Try.prog 28 #[.int .i64 n] w fun e w' => ∃ v, e = .returned v ∧ Ints w' v (List.replicate (newN n) (-1)) ∧ (∀ b, v.ownBlock = some b → w.heap.size ≤ b) ∧ Kp No w w' := by
  obtain ⟨N, hN⟩ : ∃ N, N = newN n := ⟨_, rfl⟩
  have hN1 : N ≤ 4096 := by rw [hN]; unfold newN; omega
  have hN2 : ∀ k : Nat, k < N ↔ (k : Int) < n ∧ k < 4096 := by intro k; rw [hN]; unfold newN; omega
  rw [← hN]
  have HN := hid hN2
  clear hN hN2
  go_enter Try.func28, Try.ntmps28
  go_wp2
  go_loopw [3, 4] (fun v i wr => ∃ (k : Nat), k ≤ N ∧ i = .int .i64 k ∧ Ints wr v (List.replicate k (-1)) ∧ (∀ b, v.ownBlock = some b → w.heap.size ≤ b) ∧ Kp No w wr) (fun _ i _ => N - (intOf i).toNat)
  case atStart => exact ⟨0, Nat.zero_le _, rfl, Sl.of_blk (Blk.new w 3 []) 1 0 rfl (by decide), (by intro b hb; simp [Value.ownBlock] at hb; omega), Kp.alloc _ _ _⟩
  case round =>
    obtain ⟨k, hk, rfl, hv, hb, hkp⟩ := hrel
    have HV := hid hv
    have HB := hid hb
    have HK := hid hkp
    clear hv hb hkp
    by_cases hlt : k < N
    · obtain ⟨h1, h2⟩ := (HN.out k).1 hlt
      go_wp2_with (at_builtin; refine wpl_append rfl (.tmp 15) (.tmp 16) 23 rfl el23 _ (List.replicate k (-1)).length ((List.replicate k (-1)).map (Value.int .i64)) rfl (Sl.kp (Kp.alloc No _ _) HV.out (fun _ _ => id)) (some ⟨wr.heap.size, 0, none⟩) 1 1 [.int .i64 (-1)] rfl rfl (fun _ => ⟨_, rfl, cell_one_new _ _ _⟩) (by intro u hu; simp at hu; subst hu; rfl) (by unfold maxLen; simp; omega) (by simp; omega) (fun e => by cases e) ?_; intro v' w1 hv hk1 hm; have HV1 := hid hv; have HK1 := hid ((Kp.alloc _ wr _).trans' hk1); have HM := hid (moved_ge hm HB.out (by have := HK.out.size; simp; omega)); clear hv hk1 hm)
      go_roundw
      case rel => exact ⟨k + 1, by omega, by go_num, by rw [List.replicate_succ']; unfold Ints; simpa using HV1.out, HM.out, HK.out.trans HK1.out (by intro i hi he; have := HB.out i he; omega)⟩
      case measure => simp [intOf]; omega
    · have hn : ¬ ((k : Int) < n ∧ k < 4096) := fun h => hlt ((HN.out k).2 h)
      rcases (show n ≤ k ∨ ((k : Int) < n ∧ 4096 ≤ k) by omega) with h1 | ⟨h1, h2⟩
      all_goals
        clear hn
        go_wp2
        go_ret
        refine ⟨_, rfl, ?_, HB.out, HK.out⟩
        have := HV.out
        rwa [show k = N by omega] at this

theorem ints_cell {w : World} {g n c : Nat} {xs : List Int} (h : Ints w (.slice (some ⟨g, 0, none⟩) n c) xs) (hn : n = xs.length) {k : Nat} (hk : k < xs.length) : w.cell? ⟨g, k, none⟩ = some (.int .i64 (xs[k]?.getD 0)) := by
  subst hn
  exact Sl.cell h (by simp [hk])

/-- The first k elements of two rows of one length are the same. -/
theorem take_ext {xs ys : List Int} {k : Nat} (h : xs.take k = ys.take k) (hx : k < xs.length) (hy : k < ys.length) (he : xs[k]?.getD 0 = ys[k]?.getD 0) : xs.take (k + 1) = ys.take (k + 1) := by
  rw [List.take_succ_eq_append_getElem hx, List.take_succ_eq_append_getElem hy, h]
  simp [hx, hy] at he
  rw [he]

set_option maxHeartbeats 1000000 in
theorem same_any (v u : Value) (xs ys : List Int) (w : World) (hv : Ints w v xs) (hu : Ints w u ys) (hle : xs.length ≤ 5000) (hle2 : ys.length ≤ 5000) :
    Calls Try.prog 34 #[v, u] w fun e w' => e = .returned (.bool (decide (xs = ys))) ∧ ∃ m, w' = w.drewN m := by
  obtain ⟨so, cap, rfl, _, _⟩ := hv.form
  obtain ⟨so2, cap2, rfl, _, _⟩ := hu.form
  have HV := hid hv
  have HU := hid hu
  clear hv hu
  by_cases hl : xs.length = ys.length
  · have hl0 : ((xs.length : Int) != ys.length) = false := by simp; omega
    have HL := hid hl
    go_enter Try.func34, Try.ntmps34
    clear hl
    go_wp2
    go_loopw [13] (fun i wr => ∃ (k : Nat), k ≤ xs.length ∧ i = .int .i64 k ∧ xs.take k = ys.take k ∧ ∃ m, wr = w.drewN m) (fun i _ => xs.length - (intOf i).toNat)
    case atStart => exact ⟨0, Nat.zero_le _, rfl, rfl, 0, rfl⟩
    case round =>
      obtain ⟨k, hk, rfl, ht, m, rfl⟩ := hrel
      have HT := hid ht
      clear ht
      by_cases hlt : k < xs.length
      · have hlt2 : k < ys.length := by have := HL.out; omega
        obtain ⟨g, rfl⟩ := Sl.at_ HV.out (by omega)
        obtain ⟨g2, rfl⟩ := Sl.at_ HU.out (by omega)
        have hc := ints_cell HV.out rfl hlt
        have hc2 := ints_cell HU.out rfl hlt2
        by_cases he : xs[k]?.getD 0 = ys[k]?.getD 0
        · have HT2 := hid (take_ext HT.out hlt hlt2 he)
          rw [← he] at hc2
          have h1 : (xs[k]?.getD 0 != xs[k]?.getD 0) = false := by simp
          clear he
          generalize xs[k]?.getD 0 = x at *
          go_wp2
          go_quiet (fail)
          go_wp2
          go_roundw
          case rel => exact ⟨k + 1, by omega, by go_num, HT2.out, _, rfl⟩
          case measure => simp [intOf]; omega
        · have hne : xs ≠ ys := fun e => he (by rw [e])
          have h1 : (xs[k]?.getD 0 != ys[k]?.getD 0) = true := by simpa using he
          have HD := hid (decide_eq_false hne)
          clear he hne
          generalize xs[k]?.getD 0 = x at *
          generalize ys[k]?.getD 0 = y at *
          go_wp2
          go_quiet (fail)
          go_wp2
          go_ret
          exact ⟨by rw [HD.out]; rfl, _, by first | rfl | exact World.drewN_drewN _ _ _⟩
      · have he : xs = ys := by have := HT.out; rwa [List.take_of_length_le (by omega), List.take_of_length_le (by have := HL.out; omega)] at this
        have HD := hid (decide_eq_true he)
        clear he
        go_wp2
        go_ret
        exact ⟨by rw [HD.out]; rfl, _, rfl⟩
  · have hl0 : ((xs.length : Int) != ys.length) = true := by simp; omega
    have hne : xs ≠ ys := fun e => hl (by rw [e])
    have HD := hid (decide_eq_false hne)
    clear hl hne
    go_enter Try.func34, Try.ntmps34
    go_wp2
    go_ret
    exact ⟨by rw [HD.out]; rfl, 0, rfl⟩

theorem same_to (v u : Value) (xs : List Int) (w : World) (hv : Ints w v xs) (hu : Ints w u xs) (hle : xs.length ≤ 5000) :
    Calls Try.prog 34 #[v, u] w fun e w' => e = .returned (.bool true) ∧ ∃ m, w' = w.drewN m := by
  have := same_any v u xs xs w hv hu hle hle
  rwa [decide_eq_true rfl] at this

end Go.Proofs.Ytijpdeanbkodkaa
