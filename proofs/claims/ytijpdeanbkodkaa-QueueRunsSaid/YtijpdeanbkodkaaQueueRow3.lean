/-
  Further contracts of package queue, said of its rows: the first one, how many, the first one comes out, all of a row.
-/
import Derived.Test.YtijpdeanbkodkaaQueueRow2
namespace Go.Proofs.Ytijpdeanbkodkaa
open Go.RowKit
set_option maxRecDepth 100000

/-- The row at a number, if there is one. -/
def rowAt (rows : List (List Int)) (k : Int) : List Int := if 0 ≤ k then rows[k.toNat]?.getD [] else []

theorem rowAt_some {rows : List (List Int)} {k : Int} (h : rowAt rows k ≠ []) : ∃ j : Nat, k = (j : Int) ∧ rows[j]? = some (rowAt rows k) := by
  unfold rowAt at h ⊢
  split at h
  · refine ⟨k.toNat, by omega, ?_⟩
    rw [if_pos (by omega)]
    cases hh : rows[k.toNat]? with
    | none => rw [hh] at h; simp at h
    | some l => rfl
  · exact absurd rfl h

theorem rowAt_nat {rows : List (List Int)} {k : Nat} {l : List Int} (h : rows[k]? = some l) : rowAt rows k = l := by
  unfold rowAt
  rw [if_pos (by omega)]
  simp [h]

theorem QOK.row_nil {n : Nat} {ties ends : List (Int × Int × Int)} {rows : List (List Int)} (h : QOK n ties ends rows) {k : Int} (hk : rowAt rows k = []) : k < 0 ∨ (ends.length : Int) ≤ k ∨ ∃ a b, ends[k.toNat]? = some (a, b, 0) := by
  by_cases h0 : k < 0
  · exact .inl h0
  by_cases h1 : (ends.length : Int) ≤ k
  · exact .inr (.inl h1)
  refine .inr (.inr ⟨-1, -1, ?_⟩)
  have hl : k.toNat < rows.length := by have := h.el; omega
  unfold rowAt at hk
  rw [if_pos (by omega), List.getElem?_eq_getElem hl] at hk
  have := h.en k.toNat _ (List.getElem?_eq_getElem hl)
  simp at hk
  rw [hk] at this
  exact this

theorem firstQ_nil (p tq eq n : Nat) (rows : List (List Int)) (k : Int) (hk : rowAt rows k = []) (w : World) (h : IsQ w p tq eq n rows) :
    Calls Try.prog 77 #[.pointer (some ⟨p, 0, none⟩), .int .i64 k] w fun e w' => e = .returned (.tuple #[.int .i64 0, .bool false]) ∧ w' = w := by
  obtain ⟨ties, ends, h1, h2⟩ := h
  exact first_no p tq eq ties ends k (h2.row_nil hk) w h1
theorem firstQ_cons (p tq eq n : Nat) (rows : List (List Int)) (k x : Int) (s : List Int) (hk : rowAt rows k = x :: s) (w : World) (h : IsQ w p tq eq n rows) :
    Calls Try.prog 77 #[.pointer (some ⟨p, 0, none⟩), .int .i64 k] w fun e w' => e = .returned (.tuple #[.int .i64 x, .bool true]) ∧ w' = w := by
  obtain ⟨j, rfl, hj⟩ := rowAt_some (rows := rows) (k := k) (by rw [hk]; simp)
  rw [hk] at hj
  obtain ⟨ties, ends, h1, h2⟩ := h
  exact first_yes p tq eq ties ends j x _ (x :: s).length (by simp) (h2.en j _ hj) w h1
theorem lenQ_row (p tq eq n : Nat) (rows : List (List Int)) (k : Int) (w : World) (h : IsQ w p tq eq n rows) :
    Calls Try.prog 69 #[.pointer (some ⟨p, 0, none⟩), .int .i64 k] w fun e w' => e = .returned (.int .i64 (rowAt rows k).length) ∧ w' = w := by
  obtain ⟨ties, ends, h1, h2⟩ := h
  by_cases hb : k < 0 ∨ (ends.length : Int) ≤ k
  · have : rowAt rows k = [] := by
      unfold rowAt
      split
      · rw [List.getElem?_eq_none (by have := h2.el; omega)]; rfl
      · rfl
    rw [this]
    exact lenQ_no p tq eq ties ends k hb w h1
  · have hl : k.toNat < rows.length := by have := h2.el; omega
    have hr := List.getElem?_eq_getElem hl
    have he := h2.en _ _ hr
    have := lenQ_yes p tq eq ties ends k.toNat _ _ _ he w h1
    rw [show ((k.toNat : Nat) : Int) = k by omega] at this
    have e : rowAt rows k = rows[k.toNat] := by
      unfold rowAt
      rw [if_pos (by omega), hr]; rfl
    rw [e]
    exact this
theorem listQ_row (p tq eq n : Nat) (rows : List (List Int)) (k : Int) (hn : n ≤ 64) (w : World) (h : IsQ w p tq eq n rows) :
    Calls Try.prog 70 #[.pointer (some ⟨p, 0, none⟩), .int .i64 k] w fun e w' => ∃ v, e = .returned v ∧ Ints w' v (rowAt rows k) ∧ (∀ b, v.ownBlock = some b → w.heap.size ≤ b) ∧ Kp No w w' := by
  obtain ⟨ties, ends, h1, h2⟩ := h
  by_cases hk : rowAt rows k = []
  · refine (list_no p tq eq ties ends k (h2.row_nil hk) w h1).mono ?_
    rintro e w' ⟨rfl, rfl⟩
    exact ⟨_, rfl, by rw [hk]; exact Sl.nil _ _ _, by simp [Value.ownBlock], Kp.refl _ _⟩
  · obtain ⟨j, rfl, hj⟩ := rowAt_some hk
    exact list_yes p tq eq n ties ends rows j _ h2 hj hk (by have := h2.many hj; omega) w h1

set_option maxHeartbeats 1000000 in
theorem popQ_nil (p tq eq n : Nat) (rows : List (List Int)) (k : Int) (hk : rowAt rows k = []) (w : World) (h : IsQ w p tq eq n rows) :
    Calls Try.prog 74 #[.pointer (some ⟨p, 0, none⟩), .int .i64 k] w fun e w' => e = .returned (.tuple #[.int .i64 0, .bool false]) ∧ w' = w := by
  have H := hid h
  have HK := hid hk
  clear h hk
  go_enter Try.func74, Try.ntmps74
  go_wp2_with fail
  refine (firstQ_nil p tq eq n rows k HK.out _ H.out).mono ?_
  rintro e w' ⟨rfl, hw'⟩
  rw [hw']; clear hw' w'
  go_wp2_with fail
  go_ret2
  exact ⟨rfl, rfl⟩

set_option maxHeartbeats 1000000 in
theorem popQ_cons (p tq eq n : Nat) (rows : List (List Int)) (k : Nat) (x : Int) (s : List Int) (hk : rows[k]? = some (x :: s)) (w : World) (h : IsQ w p tq eq n rows) :
    Calls Try.prog 74 #[.pointer (some ⟨p, 0, none⟩), .int .i64 k] w fun e w' => e = .returned (.tuple #[.int .i64 x, .bool true]) ∧ IsQ w' p tq eq n (rows.set k s) ∧ Kp (fun i => i = tq ∨ i = eq) w w' := by
  have H := hid h
  have HK := hid hk
  clear h hk
  go_enter Try.func74, Try.ntmps74
  go_wp2_with fail
  refine (firstQ_cons p tq eq n rows k x s (rowAt_nat HK.out) _ H.out).mono ?_
  rintro e w' ⟨rfl, hw'⟩
  rw [hw']; clear hw' w'
  go_wp2_with fail
  refine (dropQ_ok p tq eq n rows k [] x s HK.out _ H.out).mono ?_
  rintro e w1 ⟨rfl, hi, hk⟩
  have HI := hid hi
  have HKK := hid hk
  clear hi hk
  go_wp2_with fail
  go_ret2
  exact ⟨rfl, HI.out, HKK.out⟩

/-- A row without a thing. -/
def without (l : List Int) (x : Int) : List Int := l.filter (fun y => y != x)
theorem without_snoc (l : List Int) (x y : Int) : without (l ++ [y]) x = if (y != x) = true then without l x ++ [y] else without l x := by
  unfold without
  rw [List.filter_append]
  by_cases h : (y != x) = true <;> simp [h]

set_option maxHeartbeats 1000000 in
theorem without06 (v : Value) (l : List Int) (x : Int) (hl : l.length ≤ 5000) (w : World) (h : Ints w v l) :
    Calls Try.prog 81 #[v, .int .i64 x] w fun e w' => ∃ v', e = .returned v' ∧ Ints w' v' (without l x) ∧ (∀ b, v'.ownBlock = some b → w.heap.size ≤ b) ∧ Kp No w w' := by
  have H := hid h
  obtain ⟨so, cap, rfl, _, _⟩ := Sl.form h
  clear h
  go_enter Try.func81, Try.ntmps81
  go_wp2_with fail
  go_loopw [5, 11] (fun v i wr => ∃ k : Nat, k ≤ l.length ∧ i = .int .i64 k ∧ Ints wr v (without (l.take k) x) ∧ (∀ b, v.ownBlock = some b → w.heap.size ≤ b) ∧ Kp No w wr) (fun _ i _ => l.length - (intOf i).toNat)
  case atStart => exact ⟨0, Nat.zero_le _, rfl, Sl.of_blk (by simpa [without] using Blk.new w 3 []) 1 0 rfl (by decide), (by intro b hb; simp [Value.ownBlock] at hb; omega), Kp.alloc _ _ _⟩
  case round =>
    obtain ⟨k, hk, rfl, hv, hb, hkp⟩ := hrel
    have HV := hid hv
    have HB := hid hb
    have HK := hid hkp
    have hlk : (without (l.take k) x).length ≤ k := by
      unfold without
      have := List.length_filter_le (fun y => y != x) (l.take k)
      simp at this ⊢
      omega
    clear hv hb hkp
    by_cases hlt : k < l.length
    · have hs := without_snoc (l.take k) x l[k]
      rw [← List.take_succ_eq_append_getElem hlt] at hs
      have hg : l[k]?.getD 0 = l[k] := by simp [hlt]
      obtain ⟨g, hso⟩ := Sl.at_ H.out (by omega)
      subst hso
      have hc := (HK.out.cell (Sl.cell H.out (j := k) (u := .int .i64 l[k]) (by simp [hlt])) id)
      have HS := hid hs
      clear hs hg
      generalize l[k] = y at *
      by_cases hy : y = x
      · have hyb : (y != x) = false := by simp [hy]
        have HS2 := hid (HS.out.trans (if_neg (by rw [hyb]; simp)))
        clear HS hy
        go_wp2_with fail
        go_roundw
        case rel => exact ⟨k + 1, by omega, by go_num, by rw [HS2.out]; exact HV.out, HB.out, HK.out⟩
        case measure => simp [intOf]; omega
      · have hyb : (y != x) = true := by simp [hy]
        have HS2 := hid (HS.out.trans (if_pos hyb))
        clear HS hy
        go_wp2_with (at_builtin; refine wpl_append rfl (.tmp 18) (.tmp 20) 23 rfl el23 _ (without (l.take k) x).length ((without (l.take k) x).map (Value.int .i64)) rfl (Sl.kp (Kp.alloc No _ _) HV.out (fun _ _ => id)) (some ⟨wr.heap.size, 0, none⟩) 1 1 [.int .i64 y] rfl rfl (fun _ => ⟨_, rfl, cell_one_new _ _ _⟩) (by intro u hu; simp at hu; subst hu; rfl) (by unfold maxLen; omega) (by omega) (fun e => by cases e) ?_; intro v' w1 hv hk1 hm; have HV1 := hid (show Ints w1 v' (without (l.take k) x ++ [y]) by unfold Ints; simpa using hv); have HK1 := hid (HK.out.trans ((Kp.alloc _ wr _).trans' hk1) (by intro i hi he; have := HB.out i he; omega)); have HM := hid (moved_ge hm HB.out (by have := HK.out.size; simp; omega)); clear hv hk1 hm)
        go_roundw
        case rel => exact ⟨k + 1, by omega, by go_num, by rw [HS2.out]; exact HV1.out, HM.out, HK1.out⟩
        case measure => simp [intOf]; omega
    · obtain rfl : k = l.length := by omega
      rw [List.take_length] at HV
      go_wp2_with fail
      go_ret
      exact ⟨_, rfl, HV.out, HB.out, HK.out⟩
end Go.Proofs.Ytijpdeanbkodkaa
