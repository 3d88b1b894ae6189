/-
  The contracts of the reference of package bench.
-/
import Derived.Test.YtijpdeanbkodkaaBench
namespace Go.Proofs.Ytijpdeanbkodkaa
open Go.RowKit
set_option maxRecDepth 100000

theorem el69 : Elem Try.prog 69 78 [.int .i64 0, .bool false] 16 := Elem.of (z := .agg #[.int .i64 0, .bool false]) Try.underlying69 (by kernel_rfl) rfl (by decide)

/-- A slice of seats. -/
def Seats (w : World) (v : Value) (xs : List (Int × Bool)) : Prop := Sl w 78 2 v xs.length (seats xs)
theorem Seats.kp {w w' : World} {v : Value} {xs : List (Int × Bool)} {S : Nat → Prop} (h : Seats w v xs) (hk : Kp S w w') (hv : ∀ k, v.ownBlock = some k → ¬ S k) : Seats w' v xs := Sl.kp hk h hv
theorem Seats.kpN {w w' : World} {v : Value} {xs : List (Int × Bool)} (h : Seats w v xs) (hk : Kp No w w') : Seats w' v xs := Sl.kp hk h (fun _ _ => id)
theorem Seats.status {w : World} {g n c : Nat} {xs : List (Int × Bool)} (h : Seats w (.slice (some ⟨g, 0, none⟩) n c) xs) (hn : n = xs.length) {k : Nat} {x : Int × Bool} (hx : xs[k]? = some x) : w.cell? ⟨g, k * 2, none⟩ = some (.int .i64 x.1) := by
  subst hn
  have := Sl.cell h (j := k * 2 + 0) (u := .int .i64 x.1) (by unfold seats; rw [recs_get seatC_len hx (by decide)]; rfl)
  simpa using this
theorem Seats.token {w : World} {g n c : Nat} {xs : List (Int × Bool)} (h : Seats w (.slice (some ⟨g, 0, none⟩) n c) xs) (hn : n = xs.length) {k : Nat} {x : Int × Bool} (hx : xs[k]? = some x) : w.cell? ⟨g, k * 2 + 1, none⟩ = some (.bool x.2) := by
  subst hn
  exact Sl.cell h (by unfold seats; rw [recs_get seatC_len hx (by decide)]; rfl)
theorem Seats.setBoth {w : World} {g c : Nat} {xs : List (Int × Bool)} (h : Seats w (.slice (some ⟨g, 0, none⟩) xs.length c) xs) {k : Nat} {x : Int × Bool} (hx : xs[k]? = some x) (s : Int) (t : Bool) :
    Seats ((w.setCell ⟨g, k * 2, none⟩ (.int .i64 s)).setCell ⟨g, k * 2 + 1, none⟩ (.bool t)) (.slice (some ⟨g, 0, none⟩) xs.length c) (xs.set k (s, t)) := by
  have h1 := Sl.set h (k * 2 + 0) (.int .i64 s)
  unfold seats at h1
  rw [recs_set seatC_len hx (by decide) (x' := (s, x.2)) rfl] at h1
  have hk : k < xs.length := (List.getElem?_eq_some_iff.1 hx).1
  have h2 := Sl.set h1 (k * 2 + 1) (.bool t)
  rw [recs_set seatC_len (x := (s, x.2)) (x' := (s, t)) (by simp [hk]) (by decide) rfl, List.set_set] at h2
  unfold Seats seats
  rw [List.length_set]
  exact h2

set_option maxHeartbeats 400000 in
theorem refIs_any (v : Value) (xs : List (Int × Bool)) (g s : Int) (b : Bool) (hb : isB xs g s = b) (w : World) (h : Seats w v xs) (hle : xs.length ≤ 4096) :
    Calls Try.prog 86 #[v, .int .i64 g, .int .i64 s] w fun e w' => e = .returned (.bool b) ∧ w' = w := by
  obtain ⟨so, cap, rfl, _, _⟩ := Sl.form h
  cases hx : seat? xs g with
  | none =>
    have e : b = false := by rw [← hb]; unfold isB; rw [hx]
    subst e
    rcases seat?_none hx with h0 | h0
    all_goals
      clear h hx hb
      go_enter Try.func86, Try.ntmps86
      go_wp2
      go_ret
      exact ⟨by simp, rfl⟩
  | some x =>
    have e : b = (x.1 == s) := by rw [← hb]; unfold isB; rw [hx]
    subst e
    obtain ⟨h0, h1, hk⟩ := seat?_some hx
    obtain ⟨q, rfl⟩ := Sl.at_ h (by omega)
    have hc := Seats.status h rfl hk
    generalize x.1 = st at *
    clear h hx hb hk
    go_enter Try.func86, Try.ntmps86
    go_wp2
    go_ret
    exact ⟨by simp, rfl⟩

theorem Seats.source {w w' : World} {so : Option Addr} {n c : Nat} {xs : List (Int × Bool)} (h : Seats w (.slice so n c) xs) (hk : Kp No w w') : 0 < xs.length → ∃ ad, so = some ad ∧ ∀ j u, (seats xs)[j]? = some u → w'.cell? (ad.add j) = some u := by
  intro h0
  obtain ⟨g, cap, he, _⟩ := Sl.shape h h0
  simp at he
  obtain ⟨rfl, rfl, rfl⟩ := he
  exact ⟨_, rfl, Sl.source (Seats.kpN h hk)⟩
theorem seats_one (xs : List (Int × Bool)) : ∀ u ∈ seats xs, u.oneCell' = true := by
  intro u hu
  unfold seats at hu
  obtain ⟨x, _, hu⟩ := List.mem_flatMap.1 hu
  simp [seatC] at hu
  rcases hu with rfl | rfl <;> rfl

set_option maxHeartbeats 1000000 in
theorem refWith_any (v : Value) (xs : List (Int × Bool)) (g s : Int) (t : Bool) (x : Int × Bool) (hx : seat? xs g = some x) (w : World) (h : Seats w v xs) (hle : xs.length ≤ 4096) :
    Calls Try.prog 87 #[v, .int .i64 g, .agg #[.int .i64 s, .bool t]] w fun e w' => ∃ v', e = .returned v' ∧ Seats w' v' (xs.set g.toNat (s, t)) ∧ Kp No w w' ∧ (∀ b, v'.ownBlock = some b → w.heap.size ≤ b) := by
  obtain ⟨so, cap, rfl, _, hc⟩ := Sl.form h
  obtain ⟨h0, h1, hk⟩ := seat?_some hx
  have H := hid h
  have HC := hid hc
  have HK := hid hk
  clear h hc hx hk
  go_enter Try.func87, Try.ntmps87
  go_wp2_with (at_builtin; refine wpl_append rfl (.tmp 8) (.tmp 9) 69 rfl el69 (.slice (some ⟨w.heap.size + 1, 0, none⟩) 0 0) 0 [] rfl (Sl.of_blk (by simpa using Blk.new (w.alloc (.cells [Value.int .i64 s, .bool t].toArray 78)) 78 []) 2 0 rfl (by decide)) so xs.length cap (seats xs) rfl (by unfold seats; exact recs_length seatC_len xs) (H.out.source ((Kp.alloc No _ _).trans' (Kp.alloc No _ _))) (seats_one xs) (by unfold maxLen; omega) (by omega) HC.out ?_; intro v1 w1 hv hk hm; have HV := hid (show Seats w1 v1 xs by unfold Seats; simpa using hv); have HK1 := hid (((Kp.alloc No w _).trans' (Kp.alloc No _ _)).trans hk (by intro i hi he; simp [Value.ownBlock] at he; omega)); have HA := hid (hk.blk ((Blk.new w 78 [.int .i64 s, .bool t]).kp' (Kp.alloc No _ (.cells #[] 78))) (by simp [Value.ownBlock])); have HB := hid (moved_ge hm (B := w.heap.size + 1) (by intro k hk; simp [Value.ownBlock] at hk; omega) (by simp)); clear hv hk hm; obtain ⟨so1, cap1, rfl, _, _⟩ := Sl.form HV.out; obtain ⟨g1, rfl⟩ := Sl.at_ HV.out (by omega); have hcs := Seats.status HV.out rfl HK.out; have hct := Seats.token HV.out rfl HK.out; have hf := Sl.frozen HV.out (g.toNat * 2); have hf2 := Sl.frozen HV.out (g.toNat * 2 + 1); have ha0 := HA.out.cell (i := 0) rfl; have ha1 := HA.out.cell (i := 1) rfl)
  go_ret
  refine ⟨_, rfl, HV.out.setBoth HK.out s t, HK1.out.trans ((Kp.setCell (S := (· = g1)) _ _ _ (fun _ => rfl)).trans' (Kp.setCell _ _ _ (fun _ => rfl))) (by intro i hi he; have := HB.out g1 rfl; omega), fun b hb => by have := HB.out b hb; omega⟩

set_option maxHeartbeats 1000000 in
theorem refPark_any (v : Value) (xs : List (Int × Bool)) (g : Int) (ys : List (Int × Bool)) (b : Bool) (hr : parkR xs g = (ys, b)) (w : World) (h : Seats w v xs) (hle : xs.length ≤ 4096) :
    Calls Try.prog 57 #[v, .int .i64 g] w fun e w' => ∃ v', e = .returned (.tuple #[v', .bool b]) ∧ Seats w' v' ys ∧ Kp No w w' ∧ Moved w v v' := by
  obtain ⟨so, cap, rfl, _, hcc⟩ := Sl.form h
  have H := hid h
  have fresh : ∀ (w' : World) (v' : Value) (zs : List (Int × Bool)), 0 < zs.length → Seats w' v' zs → (∀ b, v'.ownBlock = some b → w.heap.size ≤ b) → Moved w (.slice so xs.length cap) v' := by
    intro w' v' zs hz hs hb
    obtain ⟨g', c', he, _⟩ := Sl.shape hs hz
    exact .inr ⟨g', by rw [he]; rfl, hb g' (by rw [he]; rfl)⟩
  have FR := hid fresh
  clear hcc fresh
  cases hx : seat? xs g with
  | none =>
    have e : (ys, b) = (xs, false) := by rw [← hr]; unfold parkR; rw [hx]
    cases e
    have HB := hid (isB_none (s := 0) hx)
    clear h hr hx
    go_enter Try.func57, Try.ntmps57
    go_wp2_with (go_at_call 86; refine (refIs_any _ xs g 0 false HB.out _ H.out hle).mono ?_; rintro e w' ⟨rfl, hw'⟩; rw [hw']; clear hw')
    go_ret2
    exact ⟨_, rfl, H.out, Kp.refl _ _, .inl rfl⟩
  | some x =>
    obtain ⟨hg0, hg1, hk⟩ := seat?_some hx
    obtain ⟨q, rfl⟩ := Sl.at_ h (by omega)
    have hct := Seats.token h rfl hk
    have HX := hid hx
    by_cases h0 : x.1 = 0
    · have HB := hid (show isB xs g 0 = true by rw [isB_some hx]; simpa using h0)
      cases ht : x.2 with
      | true =>
        have e : (ys, b) = (xs.set g.toNat (0, false), false) := by rw [← hr]; unfold parkR; rw [hx]; simp [h0, ht]
        cases e
        rw [ht] at hct
        clear h hr hx hk h0 ht
        go_enter Try.func57, Try.ntmps57
        go_wp2_with (first | (go_at_call 86; refine (refIs_any _ xs g 0 true HB.out _ H.out hle).mono ?_; rintro e w' ⟨rfl, hw'⟩; rw [hw']; clear hw') | (go_at_call 87; refine (refWith_any _ xs g 0 false x HX.out _ H.out hle).mono ?_; rintro e w' ⟨v', rfl, hi, hk, hb⟩; have HI := hid hi; have HK2 := hid hk; have HB2 := hid hb; clear hi hk hb))
        go_ret2
        exact ⟨_, rfl, HI.out, HK2.out, FR.out _ _ _ (by simp; omega) HI.out HB2.out⟩
      | false =>
        have e : (ys, b) = (xs.set g.toNat (1, false), true) := by rw [← hr]; unfold parkR; rw [hx]; simp [h0, ht]
        cases e
        rw [ht] at hct
        clear h hr hx hk h0 ht
        go_enter Try.func57, Try.ntmps57
        go_wp2_with (first | (go_at_call 86; refine (refIs_any _ xs g 0 true HB.out _ H.out hle).mono ?_; rintro e w' ⟨rfl, hw'⟩; rw [hw']; clear hw') | (go_at_call 87; refine (refWith_any _ xs g 1 false x HX.out _ H.out hle).mono ?_; rintro e w' ⟨v', rfl, hi, hk, hb⟩; have HI := hid hi; have HK2 := hid hk; have HB2 := hid hb; clear hi hk hb))
        go_ret2
        exact ⟨_, rfl, HI.out, HK2.out, FR.out _ _ _ (by simp; omega) HI.out HB2.out⟩
    · have HB := hid (show isB xs g 0 = false by rw [isB_some hx]; simpa using h0)
      have e : (ys, b) = (xs, false) := by rw [← hr]; unfold parkR; rw [hx]; simp [h0]
      cases e
      clear h hr hx hk h0
      go_enter Try.func57, Try.ntmps57
      go_wp2_with (go_at_call 86; refine (refIs_any _ xs g 0 false HB.out _ H.out hle).mono ?_; rintro e w' ⟨rfl, hw'⟩; rw [hw']; clear hw')
      go_ret2
      exact ⟨_, rfl, H.out, Kp.refl _ _, .inl rfl⟩

set_option maxHeartbeats 1000000 in
theorem refReady_any (v : Value) (xs : List (Int × Bool)) (g : Int) (ys : List (Int × Bool)) (b : Bool) (hr : readyR xs g = (ys, b)) (w : World) (h : Seats w v xs) (hle : xs.length ≤ 4096) :
    Calls Try.prog 58 #[v, .int .i64 g] w fun e w' => ∃ v', e = .returned (.tuple #[v', .bool b]) ∧ Seats w' v' ys ∧ Kp No w w' ∧ Moved w v v' := by
  obtain ⟨so, cap, rfl, _, hcc⟩ := Sl.form h
  have H := hid h
  have fresh : ∀ (w' : World) (v' : Value) (zs : List (Int × Bool)), 0 < zs.length → Seats w' v' zs → (∀ b, v'.ownBlock = some b → w.heap.size ≤ b) → Moved w (.slice so xs.length cap) v' := by
    intro w' v' zs hz hs hb
    obtain ⟨g', c', he, _⟩ := Sl.shape hs hz
    exact .inr ⟨g', by rw [he]; rfl, hb g' (by rw [he]; rfl)⟩
  have FR := hid fresh
  clear hcc fresh
  cases hx : seat? xs g with
  | none =>
    have e : (ys, b) = (xs, false) := by rw [← hr]; unfold readyR; rw [hx]
    cases e
    have HB1 := hid (isB_none (s := 1) hx)
    have HB0 := hid (isB_none (s := 0) hx)
    clear h hr hx
    go_enter Try.func58, Try.ntmps58
    go_wp2_with fail
    refine (refIs_any _ xs g 1 false HB1.out _ H.out hle).mono ?_
    rintro e w' ⟨rfl, hw'⟩
    rw [hw']; clear hw' w'
    go_wp2_with fail
    refine (refIs_any _ xs g 0 false HB0.out _ H.out hle).mono ?_
    rintro e w' ⟨rfl, hw'⟩
    rw [hw']; clear hw' w'
    go_wp2_with fail
    go_ret2
    exact ⟨_, rfl, H.out, Kp.refl _ _, .inl rfl⟩
  | some x =>
    obtain ⟨hg0, hg1, hk⟩ := seat?_some hx
    obtain ⟨q, rfl⟩ := Sl.at_ h (by omega)
    have hct := Seats.token h rfl hk
    have HX := hid hx
    by_cases h1 : x.1 = 1
    · have HB1 := hid (show isB xs g 1 = true by rw [isB_some hx]; simpa using h1)
      have e : (ys, b) = (xs.set g.toNat (0, x.2), true) := by rw [← hr]; unfold readyR; rw [hx]; simp [h1]
      cases e
      clear h hr hx hk h1
      go_enter Try.func58, Try.ntmps58
      go_wp2_with (first | (go_at_call 86; refine (refIs_any _ xs g 1 true HB1.out _ H.out hle).mono ?_; rintro e w' ⟨rfl, hw'⟩; rw [hw']; clear hw') | (go_at_call 87; refine (refWith_any _ xs g 0 x.2 x HX.out _ H.out hle).mono ?_; rintro e w' ⟨v', rfl, hi, hk, hb⟩; have HI := hid hi; have HK2 := hid hk; have HB2 := hid hb; clear hi hk hb))
      go_ret2
      exact ⟨_, rfl, HI.out, HK2.out, FR.out _ _ _ (by simp; omega) HI.out HB2.out⟩
    · have HB1 := hid (show isB xs g 1 = false by rw [isB_some hx]; simpa using h1)
      by_cases h0 : x.1 = 0
      · have HB0 := hid (show isB xs g 0 = true by rw [isB_some hx]; simpa using h0)
        cases ht : x.2 with
        | false =>
          have e : (ys, b) = (xs.set g.toNat (0, true), true) := by rw [← hr]; unfold readyR; rw [hx]; simp [h0, ht]
          cases e
          rw [ht] at hct
          clear h hr hx hk h1 h0 ht
          go_enter Try.func58, Try.ntmps58
          go_wp2_with fail
          refine (refIs_any _ xs g 1 false HB1.out _ H.out hle).mono ?_
          rintro e w' ⟨rfl, hw'⟩
          rw [hw']; clear hw' w'
          go_wp2_with fail
          refine (refIs_any _ xs g 0 true HB0.out _ H.out hle).mono ?_
          rintro e w' ⟨rfl, hw'⟩
          rw [hw']; clear hw' w'
          go_wp2_with (go_at_call 87; refine (refWith_any _ xs g 0 true x HX.out _ H.out hle).mono ?_; rintro e w' ⟨v', rfl, hi, hk, hb⟩; have HI := hid hi; have HK2 := hid hk; have HB2 := hid hb; clear hi hk hb)
          go_ret2
          exact ⟨_, rfl, HI.out, HK2.out, FR.out _ _ _ (by simp; omega) HI.out HB2.out⟩
        | true =>
          have e : (ys, b) = (xs, false) := by rw [← hr]; unfold readyR; rw [hx]; simp [h0, ht]
          cases e
          rw [ht] at hct
          clear h hr hx hk h1 h0 ht
          go_enter Try.func58, Try.ntmps58
          go_wp2_with fail
          refine (refIs_any _ xs g 1 false HB1.out _ H.out hle).mono ?_
          rintro e w' ⟨rfl, hw'⟩
          rw [hw']; clear hw' w'
          go_wp2_with fail
          refine (refIs_any _ xs g 0 true HB0.out _ H.out hle).mono ?_
          rintro e w' ⟨rfl, hw'⟩
          rw [hw']; clear hw' w'
          go_wp2_with fail
          go_ret2
          exact ⟨_, rfl, H.out, Kp.refl _ _, .inl rfl⟩
      · have HB0 := hid (show isB xs g 0 = false by rw [isB_some hx]; simpa using h0)
        have e : (ys, b) = (xs, false) := by rw [← hr]; unfold readyR; rw [hx]; simp [h1, h0]
        cases e
        clear h hr hx hk h1 h0
        go_enter Try.func58, Try.ntmps58
        go_wp2_with fail
        refine (refIs_any _ xs g 1 false HB1.out _ H.out hle).mono ?_
        rintro e w' ⟨rfl, hw'⟩
        rw [hw']; clear hw' w'
        go_wp2_with fail
        refine (refIs_any _ xs g 0 false HB0.out _ H.out hle).mono ?_
        rintro e w' ⟨rfl, hw'⟩
        rw [hw']; clear hw' w'
        go_wp2_with fail
        go_ret2
        exact ⟨_, rfl, H.out, Kp.refl _ _, .inl rfl⟩

set_option maxHeartbeats 1000000 in
theorem refEnd_any (v : Value) (xs : List (Int × Bool)) (g : Int) (ys : List (Int × Bool)) (b : Bool) (hr : endR xs g = (ys, b)) (w : World) (h : Seats w v xs) (hle : xs.length ≤ 4096) :
    Calls Try.prog 59 #[v, .int .i64 g] w fun e w' => ∃ v', e = .returned (.tuple #[v', .bool b]) ∧ Seats w' v' ys ∧ Kp No w w' ∧ Moved w v v' := by
  obtain ⟨so, cap, rfl, _, hcc⟩ := Sl.form h
  have H := hid h
  have fresh : ∀ (w' : World) (v' : Value) (zs : List (Int × Bool)), 0 < zs.length → Seats w' v' zs → (∀ b, v'.ownBlock = some b → w.heap.size ≤ b) → Moved w (.slice so xs.length cap) v' := by
    intro w' v' zs hz hs hb
    obtain ⟨g', c', he, _⟩ := Sl.shape hs hz
    exact .inr ⟨g', by rw [he]; rfl, hb g' (by rw [he]; rfl)⟩
  have FR := hid fresh
  clear hcc fresh
  cases hx : seat? xs g with
  | none =>
    have e : (ys, b) = (xs, false) := by rw [← hr]; unfold endR; rw [hx]
    cases e
    have HB := hid (isB_none (s := 0) hx)
    clear h hr hx
    go_enter Try.func59, Try.ntmps59
    go_wp2_with (go_at_call 86; refine (refIs_any _ xs g 0 false HB.out _ H.out hle).mono ?_; rintro e w' ⟨rfl, hw'⟩; rw [hw']; clear hw')
    go_ret2
    exact ⟨_, rfl, H.out, Kp.refl _ _, .inl rfl⟩
  | some x =>
    obtain ⟨hg0, hg1, hk⟩ := seat?_some hx
    have HX := hid hx
    by_cases h0 : x.1 = 0
    · have HB := hid (show isB xs g 0 = true by rw [isB_some hx]; simpa using h0)
      have e : (ys, b) = (xs.set g.toNat (2, false), true) := by rw [← hr]; unfold endR; rw [hx]; simp [h0]
      cases e
      clear h hr hx hk h0
      go_enter Try.func59, Try.ntmps59
      go_wp2_with (first | (go_at_call 86; refine (refIs_any _ xs g 0 true HB.out _ H.out hle).mono ?_; rintro e w' ⟨rfl, hw'⟩; rw [hw']; clear hw') | (go_at_call 87; refine (refWith_any _ xs g 2 false x HX.out _ H.out hle).mono ?_; rintro e w' ⟨v', rfl, hi, hk, hb⟩; have HI := hid hi; have HK2 := hid hk; have HB2 := hid hb; clear hi hk hb))
      go_ret2
      exact ⟨_, rfl, HI.out, HK2.out, FR.out _ _ _ (by simp; omega) HI.out HB2.out⟩
    · have HB := hid (show isB xs g 0 = false by rw [isB_some hx]; simpa using h0)
      have e : (ys, b) = (xs, false) := by rw [← hr]; unfold endR; rw [hx]; simp [h0]
      cases e
      clear h hr hx hk h0
      go_enter Try.func59, Try.ntmps59
      go_wp2_with (go_at_call 86; refine (refIs_any _ xs g 0 false HB.out _ H.out hle).mono ?_; rintro e w' ⟨rfl, hw'⟩; rw [hw']; clear hw')
      go_ret2
      exact ⟨_, rfl, H.out, Kp.refl _ _, .inl rfl⟩

set_option maxHeartbeats 1000000 in
theorem refSet_any (v : Value) (xs : List (Int × Bool)) (g : Int) (s : Int) (t : Bool) (ys : List (Int × Bool)) (b : Bool) (hr : setR xs g s t = (ys, b)) (w : World) (h : Seats w v xs) (hle : xs.length ≤ 4096) :
    Calls Try.prog 60 #[v, .int .i64 g, .int .i64 s, .bool t] w fun e w' => ∃ v', e = .returned (.tuple #[v', .bool b]) ∧ Seats w' v' ys ∧ Kp No w w' ∧ Moved w v v' := by
  obtain ⟨so, cap, rfl, _, hcc⟩ := Sl.form h
  have H := hid h
  have fresh : ∀ (w' : World) (v' : Value) (zs : List (Int × Bool)), 0 < zs.length → Seats w' v' zs → (∀ b, v'.ownBlock = some b → w.heap.size ≤ b) → Moved w (.slice so xs.length cap) v' := by
    intro w' v' zs hz hs hb
    obtain ⟨g', c', he, _⟩ := Sl.shape hs hz
    exact .inr ⟨g', by rw [he]; rfl, hb g' (by rw [he]; rfl)⟩
  have FR := hid fresh
  clear hcc fresh
  cases hx : seat? xs g with
  | none =>
    have e : (ys, b) = (xs, false) := by rw [← hr]; unfold setR; rw [hx]
    cases e
    rcases seat?_none hx with h0 | h0
    all_goals
      clear h hr hx
      go_enter Try.func60, Try.ntmps60
      go_wp2
      go_ret2
      exact ⟨_, rfl, H.out, Kp.refl _ _, .inl rfl⟩
  | some x =>
    obtain ⟨hg0, hg1, hk⟩ := seat?_some hx
    have HX := hid hx
    by_cases h0 : 0 ≤ s ∧ s ≤ 2
    · have e : (ys, b) = (xs.set g.toNat (s, t), true) := by rw [← hr]; unfold setR; rw [hx]; simp [h0]
      cases e
      obtain ⟨hs0, hs1⟩ := h0
      clear h hr hx hk
      go_enter Try.func60, Try.ntmps60
      go_wp2_with (go_at_call 87; refine (refWith_any _ xs g s t x HX.out _ H.out hle).mono ?_; rintro e w' ⟨v', rfl, hi, hk, hb⟩; have HI := hid hi; have HK2 := hid hk; have HB2 := hid hb; clear hi hk hb)
      go_ret2
      exact ⟨_, rfl, HI.out, HK2.out, FR.out _ _ _ (by simp; omega) HI.out HB2.out⟩
    · have e : (ys, b) = (xs, false) := by rw [← hr]; unfold setR; rw [hx]; simp [h0]
      cases e
      clear h hr hx hk
      rcases (show s < 0 ∨ (0 ≤ s ∧ 2 < s) by omega) with h1 | ⟨h1, h2⟩
      all_goals
        clear h0
        go_enter Try.func60, Try.ntmps60
        go_wp2
        go_ret2
        exact ⟨_, rfl, H.out, Kp.refl _ _, .inl rfl⟩

theorem seats_snoc (xs : List (Int × Bool)) (x : Int × Bool) : seats (xs ++ [x]) = seats xs ++ seatC x := by simp [seats]

set_option maxHeartbeats 1000000 in
theorem refNew08_any (n : Int) (w : World) :
    Calls Try.prog 55 #[.int .i64 n] w fun e w' => ∃ v, e = .returned v ∧ Seats w' v (List.replicate (newN n) (0, false)) ∧ (∀ b, v.ownBlock = some b → w.heap.size ≤ b) ∧ Kp No w w' := by
  obtain ⟨N, hN⟩ : ∃ N, N = newN n := ⟨_, rfl⟩
  have hN1 : N ≤ 4096 := by rw [hN]; unfold newN; omega
  have hN2 : ∀ k : Nat, k < N ↔ (k : Int) < n ∧ k < 4096 := by intro k; rw [hN]; unfold newN; omega
  rw [← hN]
  have HN := hid hN2
  clear hN hN2
  go_enter Try.func55, Try.ntmps55
  go_wp2
  go_loopw [3, 4] (fun v i wr => ∃ (k : Nat), k ≤ N ∧ i = .int .i64 k ∧ Seats wr v (List.replicate k (0, false)) ∧ (∀ b, v.ownBlock = some b → w.heap.size ≤ b) ∧ Kp No w wr) (fun _ i _ => N - (intOf i).toNat)
  case atStart => exact ⟨0, Nat.zero_le _, rfl, Sl.of_blk (Blk.new w 78 []) 2 0 rfl (by decide), (by intro b hb; simp [Value.ownBlock] at hb; omega), Kp.alloc _ _ _⟩
  case round =>
    obtain ⟨k, hk, rfl, hv, hb, hkp⟩ := hrel
    have HV := hid hv
    have HB := hid hb
    have HK := hid hkp
    clear hv hb hkp
    by_cases hlt : k < N
    · obtain ⟨h1, h2⟩ := (HN.out k).1 hlt
      go_wp2_with (at_builtin; refine wpl_append rfl (.tmp 15) (.tmp 17) 69 rfl el69 _ (List.replicate k (0, false)).length (seats (List.replicate k (0, false))) rfl (Sl.kp (Kp.alloc No _ _) HV.out (fun _ _ => id)) (some ⟨wr.heap.size, 0, none⟩) 1 1 [.int .i64 0, .bool false] rfl rfl (fun _ => ⟨_, rfl, (Blk.new wr 78 [.int .i64 0, .bool false]).source⟩) (by intro u hu; simp at hu; rcases hu with rfl | rfl <;> rfl) (by unfold maxLen; simp; omega) (by simp; omega) (fun e => by cases e) ?_; intro v' w1 hv hk1 hm; have HV1 := hid hv; have HK1 := hid ((Kp.alloc _ wr _).trans' hk1); have HM := hid (moved_ge hm HB.out (by have := HK.out.size; simp; omega)); clear hv hk1 hm)
      go_roundw
      case rel => exact ⟨k + 1, by omega, by go_num, by rw [List.replicate_succ']; unfold Seats; rw [seats_snoc]; simpa [seatC] using HV1.out, HM.out, HK.out.trans HK1.out (by intro i hi he; have := HB.out i he; omega)⟩
      case measure => simp [intOf]; omega
    · have hn : ¬ ((k : Int) < n ∧ k < 4096) := fun h => hlt ((HN.out k).2 h)
      rcases (show n ≤ k ∨ ((k : Int) < n ∧ 4096 ≤ k) by omega) with h1 | ⟨h1, h2⟩
      all_goals
        clear hn
        go_wp2
        go_ret
        refine ⟨_, rfl, ?_, HB.out, HK.out⟩
        have := HV.out
        rwa [show k = N by omega] at this

end Go.Proofs.Ytijpdeanbkodkaa
