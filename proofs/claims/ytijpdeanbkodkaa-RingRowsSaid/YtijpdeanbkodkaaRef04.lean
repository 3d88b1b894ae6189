/-
  The contracts of the reference of package ring, of the ring made of a list, and of the chapter's example.
-/
import Derived.Test.YtijpdeanbkodkaaRing
import Derived.Test.YtijpdeanbkodkaaStep
namespace Go.Proofs.Ytijpdeanbkodkaa
open Go.RowKit
set_option maxRecDepth 100000

theorem row_src {w : World} {g n c : Nat} {xs : List Int} (h : Row w (.slice (some ⟨g, 0, none⟩) n c) xs) (hn : n = xs.length) : Src w .i64 (some ⟨g, 0, none⟩) n xs := by
  subst hn
  exact ⟨rfl, fun e => (by cases e), fun ad e i v hv => by cases e; exact Sl.source h i v hv⟩
theorem row_source {w w' : World} {so : Option Addr} {n c : Nat} {xs : List Int} (h : Row w (.slice so n c) xs) (hk : Kp No w w') : 0 < xs.length → ∃ ad, so = some ad ∧ ∀ j u, (xs.map (Value.int .i64))[j]? = some u → w'.cell? (ad.add j) = some u := by
  intro h0
  obtain ⟨g, cap, he, _⟩ := Sl.shape h h0
  simp at he
  obtain ⟨rfl, rfl, rfl⟩ := he
  exact ⟨_, rfl, Sl.source (Row.kpN h hk)⟩

theorem take_ext04 {xs ys : List Int} {k : Nat} (h : xs.take k = ys.take k) (hx : k < xs.length) (hy : k < ys.length) (he : xs[k]?.getD 0 = ys[k]?.getD 0) : xs.take (k + 1) = ys.take (k + 1) := by
  rw [List.take_succ_eq_append_getElem hx, List.take_succ_eq_append_getElem hy, h]
  simp [hx, hy] at he
  rw [he]

/-- The comparison of two rows, of whatever sources. -/
theorem same04 (so : Option Addr) (cap : Nat) (so2 : Option Addr) (cap2 : Nat) (xs ys : List Int) (w : World) (hv : Src w .i64 so xs.length xs) (hu : Src w .i64 so2 ys.length ys) (hle : xs.length ≤ 5000) (_ : ys.length ≤ 5000) :
    Calls Try.prog 50 #[.slice so xs.length cap, .slice so2 ys.length cap2] w fun e w' => e = .returned (.bool (decide (xs = ys))) ∧ ∃ m, w' = w.drewN m := by
  have HV := hid hv
  have HU := hid hu
  clear hv hu
  by_cases hl : xs.length = ys.length
  · have hl0 : ((xs.length : Int) != ys.length) = false := by simp; omega
    have HL := hid hl
    go_enter Try.func50, Try.ntmps50
    clear hl
    go_wp2
    go_loopw [13] (fun i wr => ∃ (k : Nat), k ≤ xs.length ∧ i = .int .i64 k ∧ xs.take k = ys.take k ∧ ∃ m, wr = w.drewN m) (fun i _ => xs.length - (intOf i).toNat)
    case atStart => exact ⟨0, Nat.zero_le _, rfl, rfl, 0, rfl⟩
    case round =>
      obtain ⟨k, hk, rfl, ht, m, rfl⟩ := hrel
      have HT := hid ht
      clear ht
      by_cases hlt : k < xs.length
      · have hlt2 : k < ys.length := by have := HL.out; omega
        obtain ⟨g, rfl, hc⟩ := HV.out.cellN k hlt
        obtain ⟨g2, rfl, hc2⟩ := HU.out.cellN k hlt2
        by_cases he : xs[k]?.getD 0 = ys[k]?.getD 0
        · have HT2 := hid (take_ext04 HT.out hlt hlt2 he)
          rw [← he] at hc2
          have h1 : (xs[k]?.getD 0 != xs[k]?.getD 0) = false := by simp
          clear he
          generalize xs[k]?.getD 0 = x at *
          go_wp2
          go_quiet (fail)
          go_wp2
          go_roundw
          case rel => exact ⟨k + 1, by omega, by go_num, HT2.out, _, rfl⟩
          case measure => simp [intOf]; omega
        · have hne : xs ≠ ys := fun e => he (by rw [e])
          have h1 : (xs[k]?.getD 0 != ys[k]?.getD 0) = true := by simpa using he
          have HD := hid (decide_eq_false hne)
          clear he hne
          generalize xs[k]?.getD 0 = x at *
          generalize ys[k]?.getD 0 = y at *
          go_wp2
          go_quiet (fail)
          go_wp2
          go_ret
          exact ⟨by rw [HD.out]; rfl, _, by first | rfl | exact World.drewN_drewN _ _ _⟩
      · have he : xs = ys := by have := HT.out; rwa [List.take_of_length_le (by omega), List.take_of_length_le (by have := HL.out; omega)] at this
        have HD := hid (decide_eq_true he)
        clear he
        go_wp2
        go_ret
        exact ⟨by rw [HD.out]; rfl, _, rfl⟩
  · have hl0 : ((xs.length : Int) != ys.length) = true := by simp; omega
    have hne : xs ≠ ys := fun e => hl (by rw [e])
    have HD := hid (decide_eq_false hne)
    clear hl hne
    go_enter Try.func50, Try.ntmps50
    go_wp2
    go_ret
    exact ⟨by rw [HD.out]; rfl, 0, rfl⟩

theorem src_same {w : World} {so : Option Addr} {n : Nat} {xs : List Int} (h : Src w .i64 so n xs) : Src w .i64 so xs.length xs := by
  have := h.1
  subst this
  exact h
theorem Row.src {w : World} {v : Value} {xs : List Int} (h : Row w v xs) : ∃ so c, v = .slice so xs.length c ∧ Src w .i64 so xs.length xs := by
  obtain ⟨so, c, rfl, h1, _⟩ := Sl.src h
  exact ⟨so, c, rfl, h1⟩

/-- The comparison of two owned rows that are one. -/
theorem same04_rows (v u : Value) (xs : List Int) (w : World) (hv : Row w v xs) (hu : Row w u xs) (hle : xs.length ≤ 5000) :
    Calls Try.prog 50 #[v, u] w fun e w' => e = .returned (.bool true) ∧ ∃ m, w' = w.drewN m := by
  obtain ⟨so, c, rfl, h1⟩ := hv.src
  obtain ⟨so2, c2, rfl, h2⟩ := hu.src
  have := same04 so c so2 c2 xs xs w h1 h2 hle hle
  rwa [decide_eq_true rfl] at this

/-- Can a ring have so many places, and values? -/
def rightB (room : Int) (many : Int) : Bool := decide (0 ≤ room ∧ room ≤ 64 ∧ many ≤ room)
set_option maxHeartbeats 400000 in
theorem right04 (room many : Int) (b : Bool) (hb : rightB room many = b) (w : World) :
    Calls Try.prog 52 #[.int .i64 room, .int .i64 many] w fun e w' => e = .returned (.bool b) ∧ w' = w := by
  subst hb
  unfold rightB
  by_cases h0 : room < 0
  · rw [decide_eq_false (by omega)]
    go_enter Try.func52, Try.ntmps52
    go_wp2
    go_ret
    exact ⟨rfl, rfl⟩
  by_cases h1 : 64 < room
  · rw [decide_eq_false (by omega)]
    go_enter Try.func52, Try.ntmps52
    go_wp2
    go_ret
    exact ⟨rfl, rfl⟩
  by_cases h2 : room < many
  · rw [decide_eq_false (by omega)]
    go_enter Try.func52, Try.ntmps52
    go_wp2
    go_ret
    exact ⟨by simp <;> omega, rfl⟩
  · rw [decide_eq_true (by omega)]
    go_enter Try.func52, Try.ntmps52
    go_wp2
    go_ret
    exact ⟨by simp <;> omega, rfl⟩

set_option maxHeartbeats 1000000 in
theorem refPut04 (v0 : Value) (R : Nat) (row : List Int) (v : Int) (ys : List Int) (b : Bool) (hr : putR R row v = (ys, b)) (w : World) (h : Row w v0 row) (hle : row.length ≤ 64) :
    Calls Try.prog 62 #[v0, .int .i64 R, .int .i64 v] w fun e w' => ∃ v', e = .returned (.tuple #[v', .bool b]) ∧ Row w' v' ys ∧ Kp No w w' ∧ (∀ B, (∀ k, v0.ownBlock = some k → B ≤ k) → B ≤ w.heap.size → ∀ k, v'.ownBlock = some k → B ≤ k) := by
  obtain ⟨so, cap, rfl, _, hcc⟩ := Sl.form h
  have H := hid h
  have HC := hid hcc
  by_cases hlt : row.length < R
  · have e : (ys, b) = (row ++ [v], true) := by rw [← hr]; unfold putR; rw [if_pos hlt]
    cases e
    clear h hr hcc
    go_enter Try.func62, Try.ntmps62
    go_wp2_with (first | (at_builtin; refine wpl_append rfl (.tmp 13) (.tmp 14) 55 rfl el55 (.slice (some ⟨w.heap.size, 0, none⟩) 0 0) 0 [] rfl (Sl.of_blk (Blk.new _ _ []) 1 0 rfl (by decide)) so row.length cap (row.map (Value.int .i64)) rfl (by simp) (by have := row_source H.out (Kp.alloc No w (.cells #[] 2)); simpa using this) (ints_oneCell _ _) (by unfold maxLen; omega) (by omega) HC.out ?_; intro v1 w1 hv hk hm; have HV := hid (show Row w1 v1 row by unfold Row; simpa using hv); have HK := hid ((Kp.alloc No w _).trans hk (by intro i hi he; simp [Value.ownBlock] at he; omega)); have HB := hid (moved_ge hm (B := w.heap.size) (by intro k hk; simp [Value.ownBlock] at hk; omega) (by simp)); clear hv hk hm) | (at_builtin; refine wpl_append rfl (.tmp 15) (.tmp 17) 55 rfl el55 v1 row.length (row.map (Value.int .i64)) rfl (Sl.kp (Kp.alloc No _ _) HV.out (fun _ _ => id)) (some ⟨w1.heap.size, 0, none⟩) 1 1 [.int .i64 v] rfl rfl (fun _ => ⟨_, rfl, cell_one_new _ _ _⟩) (by intro u hu; simp at hu; subst hu; rfl) (by unfold maxLen; omega) (by omega) (fun e => by cases e) ?_; intro v2 w2 hv hk1 hm; have HV2 := hid (show Row w2 v2 (row ++ [v]) by unfold Row; simpa using hv); have HK2 := hid (HK.out.trans ((Kp.alloc _ w1 _).trans' hk1) (by intro i hi he; have := HB.out i he; omega)); have HB2 := hid (moved_ge hm HB.out (by have := HK.out.size; simp; omega)); clear hv hk1 hm))
    go_ret2
    exact ⟨_, rfl, HV2.out, HK2.out, fun B _ hB k hk => by have := HB2.out k hk; omega⟩
  · have e : (ys, b) = (row, false) := by rw [← hr]; unfold putR; rw [if_neg hlt]
    cases e
    clear h hr hcc
    go_enter Try.func62, Try.ntmps62
    go_wp2
    go_ret2
    exact ⟨_, rfl, H.out, Kp.refl _ _, fun B hB _ => hB⟩

set_option maxHeartbeats 2000000 in
theorem refGet04 (v0 : Value) (row : List Int) (ys : List Int) (y : Int) (b : Bool) (hr : getR row = (ys, y, b)) (w : World) (h : Row w v0 row) (hle : row.length ≤ 64) :
    Calls Try.prog 63 #[v0] w fun e w' => ∃ v', e = .returned (.tuple #[v', .int .i64 y, .bool b]) ∧ Row w' v' ys ∧ Kp No w w' ∧ (∀ B, (∀ k, v0.ownBlock = some k → B ≤ k) → B ≤ w.heap.size → ∀ k, v'.ownBlock = some k → B ≤ k) := by
  obtain ⟨so, cap, rfl, hlc, hcc⟩ := Sl.form h
  have H := hid h
  cases row with
  | nil =>
    cases hr
    clear h hcc
    go_enter Try.func63, Try.ntmps63
    go_wp2
    go_ret3
    exact ⟨_, rfl, H.out, Kp.refl _ _, fun B hB _ => hB⟩
  | cons x r =>
    obtain ⟨e1, e2, e3⟩ : ys = r ∧ y = x ∧ b = true := by simp only [getR, Prod.mk.injEq] at hr; exact ⟨hr.1.symm, hr.2.1.symm, hr.2.2.symm⟩
    subst ys y b
    obtain ⟨g, rfl⟩ := Sl.at_ h (by simp)
    have hc : w.cell? ⟨g, 0, none⟩ = some (.int .i64 x) := Row.cell h rfl (k := 0) (by simp)
    have HR : Hid (∀ w', Kp No (w.alloc (.cells #[] 2)) w' → 0 < r.length → ∃ ad, (if cap = 1 then some (⟨g, 0, none⟩ : Addr) else some ⟨g, 1, none⟩) = some ad ∧ ∀ j u, (r.map (Value.int .i64))[j]? = some u → w'.cell? (ad.add j) = some u) :=
      fun w' hk h0 => ⟨⟨g, 1, none⟩, if_neg (by simp only [List.length_cons] at hlc; omega), fun j u hu => by rw [Addr.add_lit]; exact ((Kp.alloc No w _).trans' hk).cell (Sl.cell h (by rw [show 1 + j = j + 1 by omega]; simpa using hu)) id⟩
    have H0 : Hid (∀ w', Kp No (w.alloc (.cells #[] 2)) w' → Sl w' 2 1 (.slice (some ⟨w.heap.size, 0, none⟩) 0 0) 0 []) := fun w' hk => Sl.of_blk ((Blk.new w 2 []).kp' hk) 1 0 rfl (by decide)
    simp only [List.length_cons] at hlc hle
    have hi1 : (1 : Int) ≤ (r.length : Int) + 1 := by omega
    have hi2 : (r.length : Int) + 1 ≤ (cap : Int) := by omega
    clear h hr hcc
    go_enter Try.func63, Try.ntmps63
    go_wp2_with fail
    go_region_held3 (fun w' => w'.cell? ⟨g, 0, none⟩ = some (.int .i64 x)) (first | exact HC1.out | go_keep)
      ((refine step_append (by rfl) (.tmp 9) (.tmp 11) 55 (by rfl) el55 (.slice (some ⟨w.heap.size, 0, none⟩) 0 0) 0 [] (by rfl) (H0.out _ (by first | exact .refl _ _ | exact .drew _ _)) (if cap = 1 then some ⟨g, 0, none⟩ else some ⟨g, 1, none⟩) r.length (cap - 1) (r.map (Value.int .i64)) (by rfl) (by simp) (HR.out _ (by first | exact .refl _ _ | exact .drew _ _)) (ints_oneCell _ _) (by unfold maxLen; omega) (by omega) (fun e => by split at e <;> cases e) ?_
        intro v1 w1 hv hk hm
        have HV := hid (show Row w1 v1 r by unfold Row; simpa using hv)
        have HK := hid (Kp.trans (S := No) (a := w) (by first | exact .alloc _ _ _ | exact (Kp.alloc No w _).trans' (Kp.drew No _)) hk (by intro i hi he; simp [Value.ownBlock] at he; omega))
        have HB := hid (moved_ge hm (B := w.heap.size) (by intro k hk; simp [Value.ownBlock] at hk; omega) (by simp))
        have HC1 := hid (HK.out.cell hc id)
        clear hv hk hm))
    all_goals
      go_wp2
      all_goals
        go_ret3
        exact ⟨_, rfl, HV.out, HK.out, fun B _ hB k hk => by have := HB.out k hk; omega⟩

set_option maxHeartbeats 2000000 in
theorem refPass04 (v0 : Value) (R : Nat) (row : List Int) (v : Int) (ys : List Int) (y : Int) (b : Bool) (hr : passR R row v = (ys, y, b)) (w : World) (h : Row w v0 row) (hle : row.length ≤ 64) :
    Calls Try.prog 64 #[v0, .int .i64 R, .int .i64 v] w fun e w' => ∃ v', e = .returned (.tuple #[v', .int .i64 y, .bool b]) ∧ Row w' v' ys ∧ Kp No w w' ∧ (∀ B, (∀ k, v0.ownBlock = some k → B ≤ k) → B ≤ w.heap.size → ∀ k, v'.ownBlock = some k → B ≤ k) := by
  obtain ⟨so, cap, rfl, hlc, hcc⟩ := Sl.form h
  have H := hid h
  by_cases hlt : row.length < R
  · have e : (ys, y, b) = (row, 0, false) := by rw [← hr]; unfold passR; rw [if_pos hlt]
    cases e
    clear h hr hcc
    go_enter Try.func64, Try.ntmps64
    go_wp2
    go_ret3
    exact ⟨_, rfl, H.out, Kp.refl _ _, fun B hB _ => hB⟩
  cases row with
  | nil =>
    unfold passR at hr
    rw [if_neg hlt] at hr
    cases hr
    clear h hcc
    simp only [List.length_nil] at hlt
    go_enter Try.func64, Try.ntmps64
    go_wp2
    go_ret3
    exact ⟨_, rfl, H.out, Kp.refl _ _, fun B hB _ => hB⟩
  | cons x r =>
    unfold passR at hr
    rw [if_neg hlt] at hr
    obtain ⟨e1, e2, e3⟩ : ys = r ++ [v] ∧ y = x ∧ b = true := by simp only [Prod.mk.injEq] at hr; exact ⟨hr.1.symm, hr.2.1.symm, hr.2.2.symm⟩
    subst ys y b
    obtain ⟨g, rfl⟩ := Sl.at_ h (by simp)
    have hc : w.cell? ⟨g, 0, none⟩ = some (.int .i64 x) := Row.cell h rfl (k := 0) (by simp)
    have HR : Hid (∀ w', Kp No w w' → 0 < r.length → ∃ ad, (if cap = 1 then some (⟨g, 0, none⟩ : Addr) else some ⟨g, 1, none⟩) = some ad ∧ ∀ j u, (r.map (Value.int .i64))[j]? = some u → w'.cell? (ad.add j) = some u) :=
      fun w' hk h0 => ⟨⟨g, 1, none⟩, if_neg (by simp only [List.length_cons] at hlc; omega), fun j u hu => by rw [Addr.add_lit]; exact hk.cell (Sl.cell h (by rw [show 1 + j = j + 1 by omega]; simpa using hu)) id⟩
    simp only [List.length_cons] at hlc hle hlt
    have hi1 : (1 : Int) ≤ (r.length : Int) + 1 := by omega
    have hi2 : (r.length : Int) + 1 ≤ (cap : Int) := by omega
    clear h hr hcc
    have hq1 : decide ((r.length : Int) + 1 < (R : Int)) = false := by simp; omega
    have hq2 : ((r.length : Int) + 1 == 0) = false := by simp; omega
    have E1 : Hid (∀ w', Kp No (w.alloc (.cells #[] 2)) w' → Sl w' 2 1 (.slice (some ⟨w.heap.size, 0, none⟩) 0 0) 0 []) := fun w' hk => Sl.of_blk ((Blk.new w 2 []).kp' hk) 1 0 rfl (by decide)
    have E2 : Hid (∀ w', Kp No ((w.alloc (.cells #[.int .i64 v] 2)).alloc (.cells #[] 2)) w' → Sl w' 2 1 (.slice (some ⟨w.heap.size + 1, 0, none⟩) 0 0) 0 []) := fun w' hk => Sl.of_blk (Blk.kp' (by simpa using Blk.new (w.alloc (.cells #[.int .i64 v] 2)) 2 []) hk) 1 0 rfl (by decide)
    have B1 : Hid (∀ w', Kp No ((w.alloc (.cells #[] 2)).alloc (.cells #[.int .i64 v] 2)) w' → Blk w' (w.heap.size + 1) 2 [.int .i64 v]) := fun w' hk => Blk.kp' (by simpa using Blk.new (w.alloc (.cells #[] 2)) 2 [.int .i64 v]) hk
    have B2 : Hid (∀ w', Kp No ((w.alloc (.cells #[.int .i64 v] 2)).alloc (.cells #[] 2)) w' → Blk w' w.heap.size 2 [.int .i64 v]) := fun w' hk => Blk.kp' (Blk.new w 2 [.int .i64 v]) ((Kp.alloc No _ _).trans' hk)
    go_enter Try.func64, Try.ntmps64
    go_wp2_with fail
    go_region_held3 (fun w' => w'.cell? ⟨g, 0, none⟩ = some (.int .i64 x)) (first | exact HC2.out | exact HC1.out | go_keep)
      (first
        | (refine step_append (by rfl) (.tmp 19) (.tmp 21) 55 (by rfl) el55 (.slice (some ⟨_, 0, none⟩) 0 0) 0 [] (by rfl) (E1.out _ (by first | ((repeat (first | exact Kp.refl _ _ | exact Kp.drew _ _ | exact Kp.alloc _ _ _ | refine Kp.trans' ?_ (Kp.drew _ _) | refine Kp.trans' ?_ (Kp.alloc _ _ _))); done) | fail)) (if cap = 1 then some ⟨g, 0, none⟩ else some ⟨g, 1, none⟩) r.length (cap - 1) (r.map (Value.int .i64)) (by rfl) (by simp) (HR.out _ (by first | ((repeat (first | exact Kp.refl _ _ | exact Kp.drew _ _ | exact Kp.alloc _ _ _ | refine Kp.trans' ?_ (Kp.drew _ _) | refine Kp.trans' ?_ (Kp.alloc _ _ _))); done) | fail)) (ints_oneCell _ _) (by unfold maxLen; omega) (by omega) (fun e => by split at e <;> cases e) ?_
           intro v1 w1 hv hk hm
           have HV := hid (show Row w1 v1 r by unfold Row; simpa using hv)
           have HK := hid (Kp.trans (S := No) (a := w) (by first | ((repeat (first | exact Kp.refl _ _ | exact Kp.drew _ _ | exact Kp.alloc _ _ _ | refine Kp.trans' ?_ (Kp.drew _ _) | refine Kp.trans' ?_ (Kp.alloc _ _ _))); done) | fail) hk (by intro i hi he; simp [Value.ownBlock] at he; omega))
           have HB := hid (moved_ge hm (B := w.heap.size) (by intro k hk; simp [Value.ownBlock] at hk; omega) (by simp <;> omega))
           have HBk := hid (hk.blk (B1.out _ (by first | ((repeat (first | exact Kp.refl _ _ | exact Kp.drew _ _ | exact Kp.alloc _ _ _ | refine Kp.trans' ?_ (Kp.drew _ _) | refine Kp.trans' ?_ (Kp.alloc _ _ _))); done) | fail)) (by simp [Value.ownBlock]))
           have HC1 := hid (HK.out.cell hc id)
           clear hv hk hm)
        | (refine step_append (by rfl) (.tmp 19) (.tmp 21) 55 (by rfl) el55 (.slice (some ⟨_, 0, none⟩) 0 0) 0 [] (by rfl) (E2.out _ (by first | ((repeat (first | exact Kp.refl _ _ | exact Kp.drew _ _ | exact Kp.alloc _ _ _ | refine Kp.trans' ?_ (Kp.drew _ _) | refine Kp.trans' ?_ (Kp.alloc _ _ _))); done) | fail)) (if cap = 1 then some ⟨g, 0, none⟩ else some ⟨g, 1, none⟩) r.length (cap - 1) (r.map (Value.int .i64)) (by rfl) (by simp) (HR.out _ (by first | ((repeat (first | exact Kp.refl _ _ | exact Kp.drew _ _ | exact Kp.alloc _ _ _ | refine Kp.trans' ?_ (Kp.drew _ _) | refine Kp.trans' ?_ (Kp.alloc _ _ _))); done) | fail)) (ints_oneCell _ _) (by unfold maxLen; omega) (by omega) (fun e => by split at e <;> cases e) ?_
           intro v1 w1 hv hk hm
           have HV := hid (show Row w1 v1 r by unfold Row; simpa using hv)
           have HK := hid (Kp.trans (S := No) (a := w) (by first | ((repeat (first | exact Kp.refl _ _ | exact Kp.drew _ _ | exact Kp.alloc _ _ _ | refine Kp.trans' ?_ (Kp.drew _ _) | refine Kp.trans' ?_ (Kp.alloc _ _ _))); done) | fail) hk (by intro i hi he; simp [Value.ownBlock] at he; omega))
           have HB := hid (moved_ge hm (B := w.heap.size) (by intro k hk; simp [Value.ownBlock] at hk; omega) (by simp <;> omega))
           have HBk := hid (hk.blk (B2.out _ (by first | ((repeat (first | exact Kp.refl _ _ | exact Kp.drew _ _ | exact Kp.alloc _ _ _ | refine Kp.trans' ?_ (Kp.drew _ _) | refine Kp.trans' ?_ (Kp.alloc _ _ _))); done) | fail)) (by simp [Value.ownBlock]))
           have HC1 := hid (HK.out.cell hc id)
           clear hv hk hm)
        | (refine step_append (by rfl) (.tmp 19) (.tmp 21) 55 (by rfl) el55 (.slice (some ⟨_, 0, none⟩) 0 0) 0 [] (by rfl) (E1.out _ (by first | ((repeat (first | exact Kp.refl _ _ | exact Kp.drew _ _ | exact Kp.alloc _ _ _ | refine Kp.trans' ?_ (Kp.drew _ _) | refine Kp.trans' ?_ (Kp.alloc _ _ _))); done) | fail)) (if cap = 1 then some ⟨g, 0, none⟩ else some ⟨g, 1, none⟩) r.length (cap - 1) (r.map (Value.int .i64)) (by rfl) (by simp) (HR.out _ (by first | ((repeat (first | exact Kp.refl _ _ | exact Kp.drew _ _ | exact Kp.alloc _ _ _ | refine Kp.trans' ?_ (Kp.drew _ _) | refine Kp.trans' ?_ (Kp.alloc _ _ _))); done) | fail)) (ints_oneCell _ _) (by unfold maxLen; omega) (by omega) (fun e => by split at e <;> cases e) ?_
           intro v1 w1 hv hk hm
           have HV := hid (show Row w1 v1 r by unfold Row; simpa using hv)
           have HK := hid (Kp.trans (S := No) (a := w) (by first | ((repeat (first | exact Kp.refl _ _ | exact Kp.drew _ _ | exact Kp.alloc _ _ _ | refine Kp.trans' ?_ (Kp.drew _ _) | refine Kp.trans' ?_ (Kp.alloc _ _ _))); done) | fail) hk (by intro i hi he; simp [Value.ownBlock] at he; omega))
           have HB := hid (moved_ge hm (B := w.heap.size) (by intro k hk; simp [Value.ownBlock] at hk; omega) (by simp <;> omega))
           have HBk := hid (True.intro)
           have HC1 := hid (HK.out.cell hc id)
           clear hv hk hm)
        | (refine step_append (by rfl) (.tmp 22) (.tmp 24) 55 (by rfl) el55 v1 r.length (r.map (Value.int .i64)) (by rfl) (Sl.kp (S := No) (by first | ((repeat (first | exact Kp.refl _ _ | exact Kp.drew _ _ | exact Kp.alloc _ _ _ | refine Kp.trans' ?_ (Kp.drew _ _) | refine Kp.trans' ?_ (Kp.alloc _ _ _))); done) | fail) HV.out (fun _ _ => id)) (some ⟨_, 0, none⟩) 1 1 [.int .i64 v] (by rfl) (by rfl) (fun _ => ⟨_, rfl, (by first | exact Blk.source (Blk.kp' HBk.out (by first | ((repeat (first | exact Kp.refl _ _ | exact Kp.drew _ _ | exact Kp.alloc _ _ _ | refine Kp.trans' ?_ (Kp.drew _ _) | refine Kp.trans' ?_ (Kp.alloc _ _ _))); done) | fail)) | exact cell_one_new _ _ _ | exact Blk.source ((Blk.new w1 2 [.int .i64 v]).kp' (Kp.drew No _)))⟩) (by intro u hu; simp at hu; subst hu; rfl) (by unfold maxLen; omega) (by omega) (fun e => by cases e) ?_
           intro v2 w2 hv hk hm
           have HV2 := hid (show Row w2 v2 (r ++ [v]) by unfold Row; simpa using hv)
           have HK2 := hid (HK.out.trans (Kp.trans' (S := fun b => v1.ownBlock = some b) (by first | ((repeat (first | exact Kp.refl _ _ | exact Kp.drew _ _ | exact Kp.alloc _ _ _ | refine Kp.trans' ?_ (Kp.drew _ _) | refine Kp.trans' ?_ (Kp.alloc _ _ _))); done) | fail) hk) (by intro i hi he; have := HB.out i he; omega))
           have HB2 := hid (moved_ge hm HB.out (by have := HK.out.size; simp; omega))
           have HC2 := hid (HK2.out.cell hc id)
           clear hv hk hm))
    all_goals
      go_wp2
      all_goals
        go_ret3
        exact ⟨_, rfl, HV2.out, HK2.out, fun B _ hB k hk => by have := HB2.out k hk; omega⟩
end Go.Proofs.Ytijpdeanbkodkaa
