/-
  The contracts of package latch: what each function answers, and what becomes of its locks.
-/
import Derived.Test.YtijpdeanbkodkaaRows
import Derived.Test.YtijpdeanbkodkaaLib
import Derived.Test.YtijpdeanbkodkaaTail
namespace Go.Proofs.Ytijpdeanbkodkaa
open Go.RowKit
set_option maxRecDepth 100000

theorem el23 : Elem Try.prog 23 3 [.int .i64 0] 8 := Elem.of Try.underlying23 (by kernel_rfl : (Try.prog.info? 3).map (fun i => (i.zero, i.size, i.bytes)) = some (some (.int .i64 0), 1, 8)) rfl (by decide)

/-- A slice of ints. -/
def Ints (w : World) (v : Value) (xs : List Int) : Prop := Sl w 3 1 v xs.length (xs.map (Value.int .i64))

theorem Ints.kp {w w' : World} {v : Value} {xs : List Int} {S : Nat → Prop} (h : Ints w v xs) (hk : Kp S w w') (hv : ∀ k, v.ownBlock = some k → ¬ S k) : Ints w' v xs := Sl.kp hk h hv
theorem Ints.kpN {w w' : World} {v : Value} {xs : List Int} (h : Ints w v xs) (hk : Kp No w w') : Ints w' v xs := Sl.kp hk h (fun _ _ => id)

/-- Locks at block p: their owners xs, in the slice v. -/
structure IsLatch (w : World) (p : Nat) (v : Value) (xs : List Int) : Prop where
  head : Blk w p 111 [v]
  row : Ints w v xs
  le : xs.length ≤ 4096

theorem IsLatch.kp {w w' : World} {p : Nat} {v : Value} {xs : List Int} {S : Nat → Prop} (h : IsLatch w p v xs) (hk : Kp S w w') (hp : ¬ S p) (hv : ∀ k, v.ownBlock = some k → ¬ S k) : IsLatch w' p v xs :=
  ⟨hk.blk h.head hp, Sl.kp hk h.row hv, h.le⟩

/-- Who has a lock. -/
def ownerL (xs : List Int) (l : Int) : Int := if 0 ≤ l ∧ l < xs.length then xs[l.toNat]?.getD 0 else -1

set_option maxHeartbeats 400000 in
theorem owner_any (p : Nat) (v : Value) (xs : List Int) (l : Int) (w : World) (h : IsLatch w p v xs) :
    Calls Try.prog 24 #[.pointer (some ⟨p, 0, none⟩), .int .i64 l] w fun e w' => e = .returned (.int .i64 (ownerL xs l)) ∧ w = w' := by
  obtain ⟨so, cap, rfl, _, _⟩ := h.row.form
  have c0 := h.head.cell (i := 0) rfl
  have hle := h.le
  by_cases h0 : l < 0
  · rw [show ownerL xs l = -1 from if_neg (by omega)]
    clear h
    go_enter Try.func24, Try.ntmps24
    go_wp2
    go_ret
    exact ⟨rfl, rfl⟩
  by_cases h1 : l < xs.length
  · rw [show ownerL xs l = xs[l.toNat]?.getD 0 from if_pos ⟨by omega, h1⟩]
    obtain ⟨g, rfl⟩ := h.row.at_ (by omega)
    have hc := h.row.cell (j := l.toNat) (u := .int .i64 (xs[l.toNat]?.getD 0)) (by simp [show l.toNat < xs.length by omega])
    generalize xs[l.toNat]?.getD 0 = x at *
    clear h
    go_enter Try.func24, Try.ntmps24
    go_wp2
    go_ret
    exact ⟨rfl, rfl⟩
  · rw [show ownerL xs l = -1 from if_neg (by omega)]
    clear h
    go_enter Try.func24, Try.ntmps24
    go_wp2
    go_ret
    exact ⟨rfl, rfl⟩

/-- Does one get a lock? -/
def tryB (xs : List Int) (l who : Int) : Bool := decide (0 ≤ l ∧ l < xs.length ∧ 0 ≤ who ∧ xs[l.toNat]?.getD 0 = -1)
def tryS (xs : List Int) (l who : Int) : List Int := if tryB xs l who then xs.set l.toNat who else xs
def freeB (xs : List Int) (l who : Int) : Bool := decide (0 ≤ who ∧ ownerL xs l = who)
def freeS (xs : List Int) (l who : Int) : List Int := if freeB xs l who then xs.set l.toNat (-1) else xs
theorem length_tryS (xs : List Int) (l who : Int) : (tryS xs l who).length = xs.length := by unfold tryS; split <;> simp
theorem length_freeS (xs : List Int) (l who : Int) : (freeS xs l who).length = xs.length := by unfold freeS; split <;> simp

theorem IsLatch.set {w : World} {p g c : Nat} {xs : List Int} (h : IsLatch w p (.slice (some ⟨g, 0, none⟩) xs.length c) xs) (j : Nat) (x : Int) :
    IsLatch (w.setCell ⟨g, j, none⟩ (.int .i64 x)) p (.slice (some ⟨g, 0, none⟩) xs.length c) (xs.set j x) := by
  have hne : p ≠ g := fun e => Sl.ne h.row h.head (by decide) (by simp [Value.ownBlock, e])
  refine ⟨(Kp.setCell (S := (· = g)) w ⟨g, j, none⟩ _ (fun _ => rfl)).blk h.head hne, ?_, by simpa using h.le⟩
  have := Sl.set h.row j (.int .i64 x)
  unfold Ints
  rw [List.map_set, List.length_set]
  exact this

set_option maxHeartbeats 400000 in
theorem try_any (p : Nat) (v : Value) (xs : List Int) (l who : Int) (w : World) (h : IsLatch w p v xs) :
    Calls Try.prog 25 #[.pointer (some ⟨p, 0, none⟩), .int .i64 l, .int .i64 who] w fun e w' =>
      e = .returned (.bool (tryB xs l who)) ∧ IsLatch w' p v (tryS xs l who) ∧ Kp (fun b => v.ownBlock = some b) w w' := by
  obtain ⟨so, cap, rfl, _, _⟩ := h.row.form
  have c0 := h.head.cell (i := 0) rfl
  have hle := h.le
  have H := hid h
  have no : tryB xs l who = false → Calls Try.prog 25 #[.pointer (some ⟨p, 0, none⟩), .int .i64 l, .int .i64 who] w (fun e w' => e = .returned (.bool false) ∧ w = w') →
      Calls Try.prog 25 #[.pointer (some ⟨p, 0, none⟩), .int .i64 l, .int .i64 who] w fun e w' =>
      e = .returned (.bool (tryB xs l who)) ∧ IsLatch w' p (.slice so xs.length cap) (tryS xs l who) ∧ Kp (fun b => (Value.slice so xs.length cap).ownBlock = some b) w w' := by
    intro hb hc
    have e2 : tryS xs l who = xs := by unfold tryS; rw [hb]; rfl
    rw [hb, e2]
    refine hc.mono ?_
    rintro e w' ⟨rfl, rfl⟩
    exact ⟨rfl, h, Kp.refl _ _⟩
  by_cases h0 : l < 0
  · refine no (by unfold tryB; simp; omega) ?_
    clear h no
    go_enter Try.func25, Try.ntmps25
    go_wp2
    go_ret
    exact ⟨rfl, rfl⟩
  by_cases h1 : l < xs.length
  · by_cases h2 : who < 0
    · refine no (by unfold tryB; simp; omega) ?_
      clear h no
      go_enter Try.func25, Try.ntmps25
      go_wp2
      go_ret
      exact ⟨rfl, rfl⟩
    obtain ⟨g, rfl⟩ := h.row.at_ (by omega)
    have hc := h.row.cell (j := l.toNat) (u := .int .i64 (xs[l.toNat]?.getD 0)) (by simp [show l.toNat < xs.length by omega])
    have hf := h.row.frozen l.toNat
    by_cases h3 : xs[l.toNat]?.getD 0 = -1
    · have hb : tryB xs l who = true := by unfold tryB; simp; omega
      have e2 : tryS xs l who = xs.set l.toNat who := by unfold tryS; rw [hb]; rfl
      rw [hb, e2]
      have h4 : (xs[l.toNat]?.getD 0 != -1) = false := by simpa using h3
      generalize xs[l.toNat]?.getD 0 = x at *
      clear h no h3 hb e2
      go_enter Try.func25, Try.ntmps25
      go_wp2
      go_ret
      exact ⟨rfl, H.out.set _ _, Kp.setCell _ _ _ (fun _ => rfl)⟩
    · refine no (by unfold tryB; simp; omega) ?_
      have h4 : (xs[l.toNat]?.getD 0 != -1) = true := by simpa using h3
      generalize xs[l.toNat]?.getD 0 = x at *
      clear h no h3
      go_enter Try.func25, Try.ntmps25
      go_wp2
      go_ret
      exact ⟨rfl, rfl⟩
  · refine no (by unfold tryB; simp; omega) ?_
    clear h no
    go_enter Try.func25, Try.ntmps25
    go_wp2
    go_ret
    exact ⟨rfl, rfl⟩

theorem ownerL_ge {xs : List Int} {l who : Int} (h0 : 0 ≤ who) (h : ownerL xs l = who) : 0 ≤ l ∧ l < xs.length := by
  unfold ownerL at h
  split at h
  · assumption
  · omega

set_option maxHeartbeats 400000 in
theorem free_any (p : Nat) (v : Value) (xs : List Int) (l who : Int) (w : World) (h : IsLatch w p v xs) :
    Calls Try.prog 26 #[.pointer (some ⟨p, 0, none⟩), .int .i64 l, .int .i64 who] w fun e w' =>
      e = .returned (.bool (freeB xs l who)) ∧ IsLatch w' p v (freeS xs l who) ∧ Kp (fun b => v.ownBlock = some b) w w' := by
  obtain ⟨so, cap, rfl, _, _⟩ := h.row.form
  have c0 := h.head.cell (i := 0) rfl
  have hle := h.le
  have H := hid h
  by_cases h0 : who < 0
  · have hb : freeB xs l who = false := by unfold freeB; simp; omega
    have e2 : freeS xs l who = xs := by unfold freeS; rw [hb]; rfl
    rw [hb, e2]
    clear h hb e2
    go_enter Try.func26, Try.ntmps26
    go_wp2
    go_ret
    exact ⟨rfl, H.out, Kp.refl _ _⟩
  by_cases h1 : ownerL xs l = who
  · have hb : freeB xs l who = true := by unfold freeB; simp; omega
    have e2 : freeS xs l who = xs.set l.toNat (-1) := by unfold freeS; rw [hb]; rfl
    rw [hb, e2]
    obtain ⟨hl0, hl1⟩ := ownerL_ge (by omega) h1
    have h4 : (ownerL xs l != who) = false := by simpa using h1
    obtain ⟨g, rfl⟩ := h.row.at_ (by omega)
    have hc := h.row.cell (j := l.toNat) (u := .int .i64 (xs[l.toNat]?.getD 0)) (by simp [show l.toNat < xs.length by omega])
    have hf := h.row.frozen l.toNat
    clear h h1 hb e2
    go_enter Try.func26, Try.ntmps26
    go_wp2_with (go_at_call 24; refine (owner_any p _ xs l _ H.out).mono ?_; rintro e w' ⟨rfl, rfl⟩)
    go_ret
    exact ⟨rfl, H.out.set _ _, Kp.setCell _ _ _ (fun _ => rfl)⟩
  · have hb : freeB xs l who = false := by unfold freeB; simp; omega
    have e2 : freeS xs l who = xs := by unfold freeS; rw [hb]; rfl
    rw [hb, e2]
    have h4 : (ownerL xs l != who) = true := by simpa using h1
    clear h h1 hb e2
    go_enter Try.func26, Try.ntmps26
    go_wp2_with (go_at_call 24; refine (owner_any p _ xs l _ H.out).mono ?_; rintro e w' ⟨rfl, rfl⟩)
    go_ret
    exact ⟨rfl, H.out, Kp.refl _ _⟩

set_option maxHeartbeats 400000 in
theorem len_latch (p : Nat) (v : Value) (xs : List Int) (w : World) (h : IsLatch w p v xs) :
    Calls Try.prog 32 #[.pointer (some ⟨p, 0, none⟩)] w fun e w' => e = .returned (.int .i64 xs.length) ∧ w = w' := by
  obtain ⟨so, cap, rfl, _, _⟩ := h.row.form
  have c0 := h.head.cell (i := 0) rfl
  clear h
  go_enter Try.func32, Try.ntmps32
  go_wp2
  go_ret
  exact ⟨rfl, rfl⟩

/-- The number of a lock that is added, and the locks behind that. -/
def addX (xs : List Int) : Int := if xs.length = 4096 then -1 else xs.length
def addS (xs : List Int) : List Int := if xs.length = 4096 then xs else xs ++ [-1]

set_option maxHeartbeats 400000 in
theorem add_any (p : Nat) (v : Value) (xs : List Int) (w : World) (h : IsLatch w p v xs) :
    Calls Try.prog 31 #[.pointer (some ⟨p, 0, none⟩)] w fun e w' => ∃ v', e = .returned (.int .i64 (addX xs)) ∧ IsLatch w' p v' (addS xs) ∧ Kp (fun b => b = p ∨ v.ownBlock = some b) w w' ∧ Moved w v v' := by
  obtain ⟨so, cap, rfl, _, _⟩ := h.row.form
  have c0 := h.head.cell (i := 0) rfl
  have f0 := h.head.frozen 0
  have hle := h.le
  have hp := h.head.lt
  have H := hid h
  by_cases h0 : xs.length = 4096
  · rw [show addX xs = -1 from if_pos h0, show addS xs = xs from if_pos h0]
    have h1 : ((xs.length : Int) == 4096) = true := by simp; omega
    clear h h0
    go_enter Try.func31, Try.ntmps31
    go_wp2
    go_ret
    exact ⟨_, rfl, H.out, Kp.refl _ _, .inl rfl⟩
  · rw [show addX xs = xs.length from if_neg h0, show addS xs = xs ++ [-1] from if_neg h0]
    have h1 : ((xs.length : Int) == 4096) = false := by simp; omega
    have hlt : xs.length < 4096 := by omega
    clear h h0 hle
    go_enter Try.func31, Try.ntmps31
    go_wp2_with (at_builtin; refine wpl_append rfl (.tmp 13) (.tmp 14) 23 rfl el23 (.slice so xs.length cap) xs.length (xs.map (Value.int .i64)) rfl (Sl.kp (Kp.alloc No _ _) H.out.row (fun _ _ => id)) (some ⟨w.heap.size, 0, none⟩) 1 1 [.int .i64 (-1)] rfl rfl (fun _ => ⟨_, rfl, cell_one_new _ _ _⟩) (by intro u hu; simp at hu; subst hu; rfl) (by unfold maxLen; omega) (by omega) (fun e => by cases e) ?_; intro v' w1 hv hk hm; have HB := hid (hk.blk ((Kp.alloc No w _).blk H.out.head id) (Sl.ne H.out.row H.out.head (by decide))); have HV := hid hv; have HK := hid ((Kp.alloc _ w _).trans' hk); have HM := hid (show Moved w (.slice so xs.length cap) v' from hm.elim .inl (fun h => .inr (h.elim fun b hb => ⟨b, hb.1, by have := hb.2; simp at this; omega⟩))); obtain ⟨so', cap', rfl, _, _⟩ := hv.form; have c1 := HB.out.cell (i := 0) rfl; have f1 := HB.out.frozen 0; clear hv hk hm)
    go_ret
    have hb : Blk (w1.setCell ⟨p, 0, none⟩ (.slice so' (xs.length + 1) cap')) p 111 [.slice so' (xs.length + 1) cap'] := HB.out.set 0 _
    have hne : (Value.slice so' (xs.length + 1) cap').ownBlock ≠ some p := Sl.ne HV.out HB.out (by decide)
    have hs := Sl.kp (Kp.setCell (S := (· = p)) w1 ⟨p, 0, none⟩ (.slice so' (xs.length + 1) cap') (fun _ => rfl)) HV.out (fun k hk e => hne (by rw [hk, e]))
    refine ⟨_, ?_, ⟨hb, ?_, ?_⟩, ?_, HM.out⟩
    · simp
    · unfold Ints; simpa using hs
    · simp; omega
    · exact (HK.out.mono (fun _ _ h => .inr h)).trans' (Kp.setCell _ _ _ (fun _ => .inl rfl))

/-- How many locks there are at first. -/
def newN (n : Int) : Nat := min n.toNat 4096

set_option maxHeartbeats 1000000 in
theorem new_latch (n : Int) (w : World) :
    Calls Try.prog 23 #[.int .i64 n] w fun e w' => ∃ p v, e = .returned (.pointer (some ⟨p, 0, none⟩)) ∧ IsLatch w' p v (List.replicate (newN n) (-1)) ∧ w.heap.size ≤ p ∧ (∀ b, v.ownBlock = some b → w.heap.size ≤ b) ∧ Kp No w w' := by
  obtain ⟨N, hN⟩ : ∃ N, N = newN n := ⟨_, rfl⟩
  have hN4 : N ≤ 4096 := by rw [hN]; unfold newN; omega
  rw [← hN]
  by_cases h0 : n < 0
  · have hz : N < 1 := by rw [hN]; unfold newN; omega
    clear hN
    go_enter Try.func23, Try.ntmps23
    go_wp2
    go_loopw [9] (fun i wr => ∃ (k : Nat) (v : Value), k ≤ N ∧ i = .int .i64 k ∧ IsLatch wr w.heap.size v (List.replicate k (-1)) ∧ (∀ b, v.ownBlock = some b → w.heap.size ≤ b) ∧ Kp No w wr) (fun i _ => N - (intOf i).toNat)
    case atStart => exact ⟨0, .slice none 0 0, Nat.zero_le _, rfl, ⟨Blk.new w 111 [.slice none 0 0], Sl.nil _ _ _, by simp⟩, (by simp [Value.ownBlock]), Kp.alloc _ _ _⟩
    case round =>
      obtain ⟨k, v, hk, rfl, hi, hb, hkp⟩ := hrel
      have HI := hid hi
      have HB := hid hb
      have HK := hid hkp
      clear hi hb hkp
      by_cases hlt : k < N
      · exfalso; omega
      · go_wp2
        go_ret
        have h1 := HI.out
        rw [show k = N by omega] at h1
        exact ⟨_, v, rfl, h1, Nat.le_refl _, HB.out, HK.out⟩
  by_cases h1 : 4096 < n
  · have hz : 4096 ≤ N := by rw [hN]; unfold newN; omega
    clear hN
    go_enter Try.func23, Try.ntmps23
    go_wp2
    go_loopw [9] (fun i wr => ∃ (k : Nat) (v : Value), k ≤ N ∧ i = .int .i64 k ∧ IsLatch wr w.heap.size v (List.replicate k (-1)) ∧ (∀ b, v.ownBlock = some b → w.heap.size ≤ b) ∧ Kp No w wr) (fun i _ => N - (intOf i).toNat)
    case atStart => exact ⟨0, .slice none 0 0, Nat.zero_le _, rfl, ⟨Blk.new w 111 [.slice none 0 0], Sl.nil _ _ _, by simp⟩, (by simp [Value.ownBlock]), Kp.alloc _ _ _⟩
    case round =>
      obtain ⟨k, v, hk, rfl, hi, hb, hkp⟩ := hrel
      have HI := hid hi
      have HB := hid hb
      have HK := hid hkp
      clear hi hb hkp
      by_cases hlt : k < N
      · go_wp2_with (go_at_call 31; refine (add_any _ v _ _ HI.out).mono ?_; rintro e w1 ⟨v', rfl, hi, hk1, hm⟩; have HI1 := hid hi; have HK1 := hid hk1; have HM := hid hm; clear hi hk1 hm)
        go_roundw
        case rel =>
          have e1 : addS (List.replicate k (-1)) = List.replicate (k + 1) (-1) := by unfold addS; rw [if_neg (by simp; omega), List.replicate_succ']
          have h1 := HI1.out
          rw [e1] at h1
          exact ⟨k + 1, v', by omega, by go_num, h1, moved_ge HM.out HB.out HK.out.size, HK.out.trans HK1.out (by intro i hi he; rcases he with he | he; omega; have := HB.out i he; omega)⟩
        case measure => simp [intOf]; omega
      · go_wp2
        go_ret
        have h1 := HI.out
        rw [show k = N by omega] at h1
        exact ⟨_, v, rfl, h1, Nat.le_refl _, HB.out, HK.out⟩
  · have hz : N ≤ n ∧ n ≤ N := by rw [hN]; unfold newN; omega
    obtain ⟨hz1, hz2⟩ := hz
    clear hN
    go_enter Try.func23, Try.ntmps23
    go_wp2
    go_loopw [9] (fun i wr => ∃ (k : Nat) (v : Value), k ≤ N ∧ i = .int .i64 k ∧ IsLatch wr w.heap.size v (List.replicate k (-1)) ∧ (∀ b, v.ownBlock = some b → w.heap.size ≤ b) ∧ Kp No w wr) (fun i _ => N - (intOf i).toNat)
    case atStart => exact ⟨0, .slice none 0 0, Nat.zero_le _, rfl, ⟨Blk.new w 111 [.slice none 0 0], Sl.nil _ _ _, by simp⟩, (by simp [Value.ownBlock]), Kp.alloc _ _ _⟩
    case round =>
      obtain ⟨k, v, hk, rfl, hi, hb, hkp⟩ := hrel
      have HI := hid hi
      have HB := hid hb
      have HK := hid hkp
      clear hi hb hkp
      by_cases hlt : k < N
      · go_wp2_with (go_at_call 31; refine (add_any _ v _ _ HI.out).mono ?_; rintro e w1 ⟨v', rfl, hi, hk1, hm⟩; have HI1 := hid hi; have HK1 := hid hk1; have HM := hid hm; clear hi hk1 hm)
        go_roundw
        case rel =>
          have e1 : addS (List.replicate k (-1)) = List.replicate (k + 1) (-1) := by unfold addS; rw [if_neg (by simp; omega), List.replicate_succ']
          have h1 := HI1.out
          rw [e1] at h1
          exact ⟨k + 1, v', by omega, by go_num, h1, moved_ge HM.out HB.out HK.out.size, HK.out.trans HK1.out (by intro i hi he; rcases he with he | he; omega; have := HB.out i he; omega)⟩
        case measure => simp [intOf]; omega
      · go_wp2
        go_ret
        have h1 := HI.out
        rw [show k = N by omega] at h1
        exact ⟨_, v, rfl, h1, Nat.le_refl _, HB.out, HK.out⟩

/-- Of the first k locks those that one has. -/
def heldP (xs : List Int) (who : Int) : Nat → List Int
  | 0 => []
  | k + 1 => heldP xs who k ++ (if xs[k]?.getD 0 = who ∧ 0 ≤ who then [(k : Int)] else [])
theorem heldP_succ (xs : List Int) (who : Int) (k : Nat) : heldP xs who (k + 1) = heldP xs who k ++ (if xs[k]?.getD 0 = who ∧ 0 ≤ who then [(k : Int)] else []) := rfl
theorem length_heldP (xs : List Int) (who : Int) (k : Nat) : (heldP xs who k).length ≤ k := by
  induction k with
  | zero => simp [heldP]
  | succ k ih => rw [heldP_succ, List.length_append]; split <;> simp <;> omega

set_option maxHeartbeats 1000000 in
theorem held_any (p : Nat) (v0 : Value) (xs : List Int) (who : Int) (w : World) (h : IsLatch w p v0 xs) :
    Calls Try.prog 27 #[.pointer (some ⟨p, 0, none⟩), .int .i64 who] w fun e w' => ∃ v, e = .returned v ∧ Ints w' v (heldP xs who xs.length) ∧ (∀ b, v.ownBlock = some b → w.heap.size ≤ b) ∧ Kp No w w' := by
  obtain ⟨so, cap, rfl, _, _⟩ := h.row.form
  have c0 := h.head.cell (i := 0) rfl
  have hle := h.le
  have H := hid h
  clear h
  go_enter Try.func27, Try.ntmps27
  go_wp2
  go_loopw [5, 13] (fun v i wr => ∃ (k : Nat), k ≤ xs.length ∧ i = .int .i64 k ∧ Ints wr v (heldP xs who k) ∧ (∀ b, v.ownBlock = some b → w.heap.size ≤ b) ∧ Kp No w wr) (fun _ i _ => xs.length - (intOf i).toNat)
  case atStart => exact ⟨0, Nat.zero_le _, rfl, Sl.nil _ _ _, (by simp [Value.ownBlock]), Kp.refl _ _⟩
  case round =>
    obtain ⟨k, hk, rfl, hv, hb, hkp⟩ := hrel
    have HV := hid hv
    have HB := hid hb
    have HK := hid hkp
    clear hv hb hkp
    by_cases hlt : k < xs.length
    · obtain ⟨g, rfl⟩ := H.out.row.at_ (by omega)
      have hc : wr.cell? ⟨g, k, none⟩ = some (.int .i64 (xs[k]?.getD 0)) := HK.out.cell (Sl.cell H.out.row (by simp [hlt])) id
      have hx := hid (heldP_succ xs who k)
      have hln := length_heldP xs who k
      generalize xs[k]?.getD 0 = x at *
      by_cases hy : x = who ∧ 0 ≤ who
      · have h1 : (x == who) = true := by simpa using hy.1
        have h2 := hy.2
        have hx1 := hx.out
        rw [if_pos hy] at hx1
        have HX := hid hx1
        clear hx hy hx1
        generalize heldP xs who k = ys at *
        go_wp2_with (at_builtin; refine wpl_append rfl (.tmp 25) (.tmp 27) 23 rfl el23 _ ys.length (ys.map (Value.int .i64)) rfl (Sl.kp (Kp.alloc No _ _) HV.out (fun _ _ => id)) (some ⟨wr.heap.size, 0, none⟩) 1 1 [.int .i64 k] rfl rfl (fun _ => ⟨_, rfl, cell_one_new _ _ _⟩) (by intro u hu; simp at hu; subst hu; rfl) (by unfold maxLen; omega) (by omega) (fun e => by cases e) ?_; intro v' w1 hv hk1 hm; have HV1 := hid hv; have HK1 := hid ((Kp.alloc _ wr _).trans' hk1); have HM := hid (moved_ge hm HB.out (by have := HK.out.size; simp; omega)); clear hv hk1 hm)
        go_roundw
        case rel => exact ⟨k + 1, by omega, by go_num, by rw [HX.out]; unfold Ints; simpa using HV1.out, HM.out, HK.out.trans HK1.out (by intro i hi he; have := HB.out i he; omega)⟩
        case measure => simp [intOf]; omega
      · have hx1 := hx.out
        rw [if_neg hy, List.append_nil] at hx1
        have HX := hid hx1
        clear hx hx1
        rcases (show ((x == who) = false) ∨ ((x == who) = true ∧ who < 0) by (by_cases hxw : x = who; right; exact ⟨by simpa using hxw, by omega⟩; left; simpa using hxw)) with h1 | ⟨h1, h2⟩
        all_goals
          clear hy
          go_wp2
          go_roundw
          case rel => exact ⟨k + 1, by omega, by go_num, by rw [HX.out]; exact HV.out, HB.out, HK.out⟩
          case measure => simp [intOf]; omega
    · go_wp2
      go_ret
      refine ⟨_, rfl, ?_, HB.out, HK.out⟩
      have := HV.out
      rwa [show k = xs.length by omega] at this

theorem try_to (p : Nat) (v : Value) (xs : List Int) (l who : Int) (b : Bool) (ys : List Int) (hb : tryB xs l who = b) (hy : tryS xs l who = ys) (w : World) (h : IsLatch w p v xs) :
    Calls Try.prog 25 #[.pointer (some ⟨p, 0, none⟩), .int .i64 l, .int .i64 who] w fun e w' => e = .returned (.bool b) ∧ IsLatch w' p v ys ∧ Kp (fun b => v.ownBlock = some b) w w' := by
  subst hb hy
  exact try_any p v xs l who w h
theorem free_to (p : Nat) (v : Value) (xs : List Int) (l who : Int) (b : Bool) (ys : List Int) (hb : freeB xs l who = b) (hy : freeS xs l who = ys) (w : World) (h : IsLatch w p v xs) :
    Calls Try.prog 26 #[.pointer (some ⟨p, 0, none⟩), .int .i64 l, .int .i64 who] w fun e w' => e = .returned (.bool b) ∧ IsLatch w' p v ys ∧ Kp (fun b => v.ownBlock = some b) w w' := by
  subst hb hy
  exact free_any p v xs l who w h

set_option maxHeartbeats 1000000 in
theorem alive_latch (w : World) : Calls Try.prog 22 #[] w fun e w' => e = .returned (.bool true) ∧ Kp No w w' := by
  go_enter Try.func22, Try.ntmps22
  go_wp2_with fail
  refine (new_latch 1 _).mono ?_
  rintro e w1 ⟨p, v, rfl, hi, hp, hv, hk⟩
  have HI := hid (show IsLatch w1 p v [-1] from hi)
  have HV := hid hv
  have HK := hid hk
  clear hi hv hk
  go_wp2_with fail
  refine (try_to p v [-1] 0 3 true [3] rfl rfl _ HI.out).mono ?_
  rintro e w2 ⟨rfl, hi, hk⟩
  have HI := hid hi
  have HK := hid (HK.out.trans hk (by intro i hi he; have := HV.out i he; omega))
  clear hi hk
  go_wp2_with fail
  refine (try_to p v [3] 0 3 false [3] rfl rfl _ HI.out).mono ?_
  rintro e w3 ⟨rfl, hi, hk⟩
  have HI := hid hi
  have HK := hid (HK.out.trans hk (by intro i hi he; have := HV.out i he; omega))
  clear hi hk
  go_wp2_with fail
  refine (free_to p v [3] 0 3 true [-1] rfl rfl _ HI.out).mono ?_
  rintro e w4 ⟨rfl, hi, hk⟩
  have HK := hid (HK.out.trans hk (by intro i hi he; have := HV.out i he; omega))
  clear hi hk
  go_wp2_with fail
  go_ret
  exact ⟨rfl, HK.out⟩

theorem owner_to (p : Nat) (v : Value) (xs : List Int) (l x : Int) (hx : ownerL xs l = x) (w : World) (h : IsLatch w p v xs) :
    Calls Try.prog 24 #[.pointer (some ⟨p, 0, none⟩), .int .i64 l] w fun e w' => e = .returned (.int .i64 x) ∧ w' = w := by
  subst hx
  exact (owner_any p v xs l w h).mono fun _ _ ⟨he, hw⟩ => ⟨he, hw.symm⟩

theorem tryB_true {xs : List Int} {l who : Int} (h : tryB xs l who = true) : ownerL xs l = -1 ∧ ownerL (tryS xs l who) l = who := by
  have h1 := h
  unfold tryB at h1
  simp only [decide_eq_true_eq] at h1
  obtain ⟨h0, hl, hw, hx⟩ := h1
  refine ⟨by unfold ownerL; rw [if_pos ⟨h0, hl⟩]; exact hx, ?_⟩
  unfold tryS ownerL
  rw [h]
  simp only [if_true, List.length_set]
  rw [if_pos ⟨h0, hl⟩]
  simp [show l.toNat < xs.length by omega]
theorem tryS_false {xs : List Int} {l who : Int} (h : tryB xs l who = false) : tryS xs l who = xs := by unfold tryS; rw [h]; rfl
theorem freeB_true {xs : List Int} {l who : Int} (h : freeB xs l who = true) : ownerL xs l = who ∧ ownerL (freeS xs l who) l = -1 := by
  have h1 := h
  unfold freeB at h1
  simp only [decide_eq_true_eq] at h1
  obtain ⟨h0, hx⟩ := h1
  obtain ⟨hl0, hl⟩ := ownerL_ge h0 hx
  refine ⟨hx, ?_⟩
  unfold freeS ownerL
  rw [h]
  simp only [if_true, List.length_set]
  rw [if_pos ⟨hl0, hl⟩]
  simp [show l.toNat < xs.length by omega]
theorem freeS_false {xs : List Int} {l who : Int} (h : freeB xs l who = false) : freeS xs l who = xs := by unfold freeS; rw [h]; rfl

/-- No two have one lock: of the first k locks, those of the first n are at most k. -/
theorem held_sum (xs : List Int) (k n : Nat) : ((List.range n).map fun (g : Nat) => (heldP xs (g : Int) k).length).sum ≤ k := by
  induction k with
  | zero =>
    have z : ∀ L : List Nat, (L.map fun _ => 0).sum = 0 := fun L => by induction L with | nil => rfl | cons a L ih => simp only [List.map_cons, List.sum_cons]; omega
    simp [heldP, z]
  | succ k ih =>
    have e : ∀ g : Nat, (heldP xs (g : Int) (k + 1)).length = (heldP xs (g : Int) k).length + (if xs[k]?.getD 0 = (g : Int) then 1 else 0) := by
      intro g
      rw [heldP_succ, List.length_append]
      by_cases hg : xs[k]?.getD 0 = (g : Int)
      · rw [if_pos ⟨hg, by omega⟩, if_pos hg]; rfl
      · rw [if_neg (fun h => hg h.1), if_neg hg]; rfl
    have one : ∀ m : Nat, ((List.range m).map fun (g : Nat) => if xs[k]?.getD 0 = (g : Int) then 1 else 0).sum ≤ (if 0 ≤ xs[k]?.getD 0 ∧ xs[k]?.getD 0 < (m : Int) then 1 else 0) := by
      intro m
      induction m with
      | zero => simp
      | succ m ihm =>
        rw [List.range_succ, List.map_append, List.sum_append]
        simp only [List.map_cons, List.map_nil, List.sum_cons, List.sum_nil, Nat.add_zero]
        by_cases h1 : xs[k]?.getD 0 = (m : Int)
        · rw [if_pos h1, if_pos (by omega)]
          rw [if_neg (by omega)] at ihm
          omega
        · rw [if_neg h1]
          by_cases h2 : 0 ≤ xs[k]?.getD 0 ∧ xs[k]?.getD 0 < (m : Int)
          · rw [if_pos h2] at ihm
            rw [if_pos (by omega)]
            omega
          · rw [if_neg h2] at ihm
            omega
    have sum : ∀ (L : List Nat) (f g : Nat → Nat), (L.map fun x => f x + g x).sum = (L.map f).sum + (L.map g).sum := by
      intro L f g
      induction L with
      | nil => rfl
      | cons a L ih => simp only [List.map_cons, List.sum_cons]; omega
    have e2 : ((List.range n).map fun (g : Nat) => (heldP xs (g : Int) (k + 1)).length) = (List.range n).map fun (g : Nat) => (heldP xs (g : Int) k).length + (if xs[k]?.getD 0 = (g : Int) then 1 else 0) :=
      List.map_congr_left fun g _ => e g
    rw [e2, sum]
    have h1 := one n
    have h2 : (if 0 ≤ xs[k]?.getD 0 ∧ xs[k]?.getD 0 < (n : Int) then 1 else 0) ≤ 1 := by split <;> omega
    omega

/-- How many of the first k locks the first n have, all in all. -/
def heldSum (xs : List Int) (k n : Nat) : Nat := ((List.range n).map fun (g : Nat) => (heldP xs (g : Int) k).length).sum
theorem heldSum_zero (xs : List Int) (k : Nat) : heldSum xs k 0 = 0 := rfl
theorem heldSum_succ (xs : List Int) (k n : Nat) : heldSum xs k (n + 1) = heldSum xs k n + (heldP xs (n : Int) k).length := by
  unfold heldSum
  rw [List.range_succ, List.map_append, List.sum_append]
  simp
theorem heldSum_le (xs : List Int) (k n : Nat) : heldSum xs k n ≤ k := held_sum xs k n

end Go.Proofs.Ytijpdeanbkodkaa
