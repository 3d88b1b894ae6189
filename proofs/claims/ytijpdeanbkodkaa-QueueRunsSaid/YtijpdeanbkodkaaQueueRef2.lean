/-
  The contracts of the reference of package queue that push, drop and pop.
-/
import Derived.Test.YtijpdeanbkodkaaQueueRef
import Derived.Test.YtijpdeanbkodkaaStep
namespace Go.Proofs.Ytijpdeanbkodkaa
open Go.RowKit
set_option maxRecDepth 100000

theorem InOut.yes {rows : List (List Int)} {x : Int} {k : Int} {b : Bool} (h : InOut rows x k b) (hb : b = true) : ∃ (j : Nat) (r : List Int), k = (j : Int) ∧ rows[j]? = some r ∧ x ∈ r := by
  rcases h with ⟨_, h⟩ | ⟨h, _⟩
  · exact h
  · rw [hb] at h; cases h
theorem InOut.no {rows : List (List Int)} {x : Int} {k : Int} {b : Bool} (h : InOut rows x k b) (hb : b = false) : k = 0 ∧ ∀ (j : Nat) (r : List Int), rows[j]? = some r → x ∉ r := by
  rcases h with ⟨h, _⟩ | ⟨_, h⟩
  · rw [hb] at h; cases h
  · exact h

set_option maxHeartbeats 2000000 in
theorem push06_no (n : Int) (v : Value) (rows : List (List Int)) (k x : Int) (hl : rows.length ≤ 64) (hs : ∀ (k : Nat) (r : List Int), rows[k]? = some r → r.length ≤ 64)
    (hno : (∃ (j : Nat) (l : List Int), rows[j]? = some l ∧ x ∈ l) ∨ k < 0 ∨ rows.length ≤ k ∨ x < 0 ∨ n ≤ x) (w : World) (h : IsRef w v rows) :
    Calls Try.prog 71 #[.agg #[.int .i64 n, v], .int .i64 k, .int .i64 x] w (With06b n rows false w) := by
  obtain ⟨so, cap, vs, rfl, _, _⟩ := h.form
  have K2 := hid ((Kp.alloc No w (.cells #[.int .i64 n, .slice so rows.length cap] 96)).trans' (Kp.alloc No _ (.cells #[.int .i64 0, .slice none 0 0] 96)))
  have B1 := hid ((Blk.new w 96 [.int .i64 n, .slice so rows.length cap]).kp' (Kp.alloc No _ (.cells #[.int .i64 0, .slice none 0 0] 96)))
  have B2 := hid (show Blk ((w.alloc (.cells #[.int .i64 n, .slice so rows.length cap] 96)).alloc (.cells #[.int .i64 0, .slice none 0 0] 96)) (w.heap.size + 1) 96 [.int .i64 0, .slice none 0 0] by simpa using Blk.new (w.alloc (.cells #[.int .i64 n, .slice so rows.length cap] 96)) 96 [.int .i64 0, .slice none 0 0])
  have H := hid h
  have HS := hid hs
  have HN := hid hno
  clear h hs hno
  go_enter Try.func71, Try.ntmps71
  go_wp2_with fail
  refine (in06 n _ rows x hl HS.out _ (H.out.kpN K2.out)).mono ?_
  rintro e w3 ⟨k3, b3, rfl, hio, hk3⟩
  have b1 := B1.out.kp' hk3
  have b2 := B2.out.kp' hk3
  have x0 := b1.cell (i := 0) rfl
  have x1 := b1.cell (i := 1) rfl
  have y0 := b2.cell (i := 0) rfl
  have y1 := b2.cell (i := 1) rfl
  have yf0 := b2.frozen 0
  have yf1 := b2.frozen 1
  have hgood : b3 = true ∨ (b3 = false ∧ k < 0) ∨ (b3 = false ∧ 0 ≤ k ∧ rows.length ≤ k) ∨ (b3 = false ∧ 0 ≤ k ∧ k < rows.length ∧ x < 0) ∨ (b3 = false ∧ 0 ≤ k ∧ k < rows.length ∧ 0 ≤ x ∧ n ≤ x) := by
    cases hb : b3 with
    | true => exact .inl rfl
    | false =>
      obtain ⟨_, hout⟩ := hio.no hb
      rcases HN.out with ⟨j, l, h1, h2⟩ | h | h | h | h
      · exact absurd h2 (hout j l h1)
      all_goals simp <;> omega
  have HB2 := hid b2
  have HK3 := hid (K2.out.trans' hk3)
  clear hio hk3 b1 b2
  rcases hgood with rfl | ⟨rfl, h1⟩ | ⟨rfl, h1, h2⟩ | ⟨rfl, h1, h2, h3⟩ | ⟨rfl, h1, h2, h3, h4⟩
  all_goals
    go_wp2_with fail
    have h3' := HB2.out.set 0 (.int .i64 n)
    have h4' := h3'.set 1 (.slice so rows.length cap)
    have z1 := h4'.cell (i := 0) rfl
    have z2 := h4'.cell (i := 1) rfl
    refine bodyPost_ret (v := .tuple #[.agg #[.int .i64 n, .slice so rows.length cap], .bool false]) (by simp [results, go_sem, z1, z2]) rfl ⟨_, rfl, ?_, ?_⟩
    · exact (H.out.kpN HK3.out).kp (S := (· = w.heap.size + 1)) ((Kp.setCell (S := (· = w.heap.size + 1)) _ _ _ fun _ => rfl).trans' (Kp.setCell (S := (· = w.heap.size + 1)) _ _ _ fun _ => rfl)) (fun b hb _ => ⟨96, _, hb ▸ HB2.out, by decide, by decide⟩)
    · exact HK3.out.trans ((Kp.setCell (S := (w.heap.size ≤ ·)) _ _ _ fun _ => by show w.heap.size ≤ w.heap.size + 1; omega).trans' (Kp.setCell _ _ _ fun _ => by show w.heap.size ≤ w.heap.size + 1; omega)) (fun i hi he => by omega)

theorem one_ints (r : List Int) : ∀ u ∈ r.map (Value.int .i64), u.oneCell' = true := by
  intro u hu
  obtain ⟨x, _, rfl⟩ := List.mem_map.1 hu
  rfl

set_option maxHeartbeats 4000000 in
theorem push06_ok (n : Int) (v : Value) (rows : List (List Int)) (k : Nat) (r : List Int) (x : Int) (hl : rows.length ≤ 64) (hs : ∀ (k : Nat) (r : List Int), rows[k]? = some r → r.length ≤ 64)
    (hr : rows[k]? = some r) (hx : 0 ≤ x ∧ x < n) (hout : ∀ (j : Nat) (r : List Int), rows[j]? = some r → x ∉ r) (w : World) (h : IsRef w v rows) :
    Calls Try.prog 71 #[.agg #[.int .i64 n, v], .int .i64 k, .int .i64 x] w (With06b n (rows.set k (r ++ [x])) true w) := by
  obtain ⟨so, cap, vs, rfl, _, _⟩ := h.form
  have K2 := hid ((Kp.alloc No w (.cells #[.int .i64 n, .slice so rows.length cap] 96)).trans' (Kp.alloc No _ (.cells #[.int .i64 0, .slice none 0 0] 96)))
  have B1 := hid ((Blk.new w 96 [.int .i64 n, .slice so rows.length cap]).kp' (Kp.alloc No _ (.cells #[.int .i64 0, .slice none 0 0] 96)))
  have B2 := hid (show Blk ((w.alloc (.cells #[.int .i64 n, .slice so rows.length cap] 96)).alloc (.cells #[.int .i64 0, .slice none 0 0] 96)) (w.heap.size + 1) 96 [.int .i64 0, .slice none 0 0] by simpa using Blk.new (w.alloc (.cells #[.int .i64 n, .slice so rows.length cap] 96)) 96 [.int .i64 0, .slice none 0 0])
  have H := hid h
  have HS := hid hs
  have HO := hid hout
  have HR := hid hr
  have hrl := hs k r hr
  have hkl : k < rows.length := (List.getElem?_eq_some_iff.1 hr).1
  obtain ⟨hx1, hx2⟩ := hx
  clear h hs hout hr
  go_enter Try.func71, Try.ntmps71
  go_wp2_with fail
  refine (in06 n _ rows x hl HS.out _ (H.out.kpN K2.out)).mono ?_
  rintro e w3 ⟨k3, b3, rfl, hio, hk3⟩
  have hb3 : b3 = false := by
    cases hb : b3 with
    | false => rfl
    | true =>
      obtain ⟨j, r, _, h1, h2⟩ := hio.yes hb
      exact absurd h2 (HO.out j r h1)
  subst hb3
  have b1 := B1.out.kp' hk3
  have b2 := B2.out.kp' hk3
  have H3 := hid (H.out.kpN (K2.out.trans' hk3))
  have hw3 := hk3.size
  simp only [World.size_alloc] at hw3
  obtain ⟨g, u, hso, hc, hu⟩ := H3.out.cell HR.out
  subst hso
  obtain ⟨uo, uc, rfl, _, huc⟩ := hu.form
  have x0 := b1.cell (i := 0) rfl
  have x1 := b1.cell (i := 1) rfl
  have HU := hid hu
  have HUC := hid huc
  have hgne : g ≠ w.heap.size + 1 := by
    obtain ⟨vs3, _, hs3, _⟩ := H3.out.laid
    intro e
    exact hs3.ne b2 (by decide) (by rw [← e]; rfl)
  have hgne2 := hgne.symm
  have HSRC : Hid (∀ w', Kp No w3 w' → 0 < r.length → ∃ ad, uo = some ad ∧ ∀ j z, (r.map (Value.int .i64))[j]? = some z → w'.cell? (ad.add j) = some z) := fun w' hk => Ints.source hu hk
  have HB1 := hid b1
  have HB2 := hid b2
  have HK3 := hid (K2.out.trans' hk3)
  have HXX := hid (show ∀ w', Kp No w3 w' → w'.cell? ⟨w.heap.size, 0, none⟩ = some (.int .i64 n) ∧ w'.cell? ⟨w.heap.size, 1, none⟩ = some (.slice (some ⟨g, 0, none⟩) rows.length cap) ∧ w'.cell? ⟨g, k, none⟩ = some (.slice uo r.length uc) from fun w' hk => ⟨hk.cell x0 id, hk.cell x1 id, hk.cell hc id⟩)
  clear hio hk3 b1 b2 hu huc
  go_wp2_with fail
  have E1 : Hid (∀ w', Kp No (w3.alloc (.cells #[] 3)) w' → Sl w' 3 1 (.slice (some ⟨w3.heap.size, 0, none⟩) 0 0) 0 []) := fun w' hk => Sl.of_blk ((Blk.new w3 3 []).kp' hk) 1 0 rfl (by decide)
  have E2 : Hid (∀ w', Kp No ((w3.alloc (.cells #[.int .i64 x] 3)).alloc (.cells #[] 3)) w' → Sl w' 3 1 (.slice (some ⟨w3.heap.size + 1, 0, none⟩) 0 0) 0 []) := fun w' hk => Sl.of_blk (Blk.kp' (by simpa using Blk.new (w3.alloc (.cells #[.int .i64 x] 3)) 3 []) hk) 1 0 rfl (by decide)
  have B1 : Hid (∀ w', Kp No ((w3.alloc (.cells #[] 3)).alloc (.cells #[.int .i64 x] 3)) w' → Blk w' (w3.heap.size + 1) 3 [.int .i64 x]) := fun w' hk => Blk.kp' (by simpa using Blk.new (w3.alloc (.cells #[] 3)) 3 [.int .i64 x]) hk
  have B2 : Hid (∀ w', Kp No ((w3.alloc (.cells #[.int .i64 x] 3)).alloc (.cells #[] 3)) w' → Blk w' w3.heap.size 3 [.int .i64 x]) := fun w' hk => Blk.kp' (Blk.new w3 3 [.int .i64 x]) ((Kp.alloc No _ _).trans' hk)
  go_region_held3 (fun w' => w'.cell? ⟨w.heap.size, 0, none⟩ = some (.int .i64 n) ∧ w'.cell? ⟨w.heap.size, 1, none⟩ = some (.slice (some ⟨g, 0, none⟩) rows.length cap) ∧ w'.cell? ⟨g, k, none⟩ = some (.slice uo r.length uc)) (first | exact HC2.out | exact HC1.out | exact HXX.out _ (by first | ((repeat (first | exact Kp.refl _ _ | exact Kp.drew _ _ | exact Kp.alloc _ _ _ | refine Kp.trans' ?_ (Kp.drew _ _) | refine Kp.trans' ?_ (Kp.alloc _ _ _))); done) | fail) | go_keep)
      (first
        | (refine step_append (by rfl) (.tmp 41) (.tmp 46) 23 (by rfl) el23 (.slice (some ⟨_, 0, none⟩) 0 0) 0 [] (by rfl) (E1.out _ (by first | ((repeat (first | exact Kp.refl _ _ | exact Kp.drew _ _ | exact Kp.alloc _ _ _ | refine Kp.trans' ?_ (Kp.drew _ _) | refine Kp.trans' ?_ (Kp.alloc _ _ _))); done) | fail)) uo r.length uc (r.map (Value.int .i64)) (by rfl) (by simp) (HSRC.out _ (by first | ((repeat (first | exact Kp.refl _ _ | exact Kp.drew _ _ | exact Kp.alloc _ _ _ | refine Kp.trans' ?_ (Kp.drew _ _) | refine Kp.trans' ?_ (Kp.alloc _ _ _))); done) | fail)) (one_ints _) (by unfold maxLen; omega) (by omega) HUC.out ?_
           intro v1 w4 hv hk hm
           have HV := hid (show Ints w4 v1 r by unfold Ints; simpa using hv)
           have HK := hid (Kp.trans (S := No) (a := w3) (by first | ((repeat (first | exact Kp.refl _ _ | exact Kp.drew _ _ | exact Kp.alloc _ _ _ | refine Kp.trans' ?_ (Kp.drew _ _) | refine Kp.trans' ?_ (Kp.alloc _ _ _))); done) | fail) hk (fun i hi he => by have he2 := Option.some.inj he; simp only [] at he2; omega))
           have HB := hid (moved_ge hm (B := w3.heap.size) (fun i he => by have he2 := Option.some.inj he; simp only [] at he2; omega) (by simp <;> omega))
           have HBk := hid (hk.blk (B1.out _ (by first | ((repeat (first | exact Kp.refl _ _ | exact Kp.drew _ _ | exact Kp.alloc _ _ _ | refine Kp.trans' ?_ (Kp.drew _ _) | refine Kp.trans' ?_ (Kp.alloc _ _ _))); done) | fail)) (fun he => by have he2 := Option.some.inj he; simp only [] at he2; omega))
           have HC1 := hid (HXX.out _ HK.out)
           clear hv hk hm)
        | (refine step_append (by rfl) (.tmp 41) (.tmp 46) 23 (by rfl) el23 (.slice (some ⟨_, 0, none⟩) 0 0) 0 [] (by rfl) (E2.out _ (by first | ((repeat (first | exact Kp.refl _ _ | exact Kp.drew _ _ | exact Kp.alloc _ _ _ | refine Kp.trans' ?_ (Kp.drew _ _) | refine Kp.trans' ?_ (Kp.alloc _ _ _))); done) | fail)) uo r.length uc (r.map (Value.int .i64)) (by rfl) (by simp) (HSRC.out _ (by first | ((repeat (first | exact Kp.refl _ _ | exact Kp.drew _ _ | exact Kp.alloc _ _ _ | refine Kp.trans' ?_ (Kp.drew _ _) | refine Kp.trans' ?_ (Kp.alloc _ _ _))); done) | fail)) (one_ints _) (by unfold maxLen; omega) (by omega) HUC.out ?_
           intro v1 w4 hv hk hm
           have HV := hid (show Ints w4 v1 r by unfold Ints; simpa using hv)
           have HK := hid (Kp.trans (S := No) (a := w3) (by first | ((repeat (first | exact Kp.refl _ _ | exact Kp.drew _ _ | exact Kp.alloc _ _ _ | refine Kp.trans' ?_ (Kp.drew _ _) | refine Kp.trans' ?_ (Kp.alloc _ _ _))); done) | fail) hk (fun i hi he => by have he2 := Option.some.inj he; simp only [] at he2; omega))
           have HB := hid (moved_ge hm (B := w3.heap.size) (fun i he => by have he2 := Option.some.inj he; simp only [] at he2; omega) (by simp <;> omega))
           have HBk := hid (hk.blk (B2.out _ (by first | ((repeat (first | exact Kp.refl _ _ | exact Kp.drew _ _ | exact Kp.alloc _ _ _ | refine Kp.trans' ?_ (Kp.drew _ _) | refine Kp.trans' ?_ (Kp.alloc _ _ _))); done) | fail)) (fun he => by have he2 := Option.some.inj he; simp only [] at he2; omega))
           have HC1 := hid (HXX.out _ HK.out)
           clear hv hk hm)
        | (refine step_append (by rfl) (.tmp 41) (.tmp 46) 23 (by rfl) el23 (.slice (some ⟨_, 0, none⟩) 0 0) 0 [] (by rfl) (E1.out _ (by first | ((repeat (first | exact Kp.refl _ _ | exact Kp.drew _ _ | exact Kp.alloc _ _ _ | refine Kp.trans' ?_ (Kp.drew _ _) | refine Kp.trans' ?_ (Kp.alloc _ _ _))); done) | fail)) uo r.length uc (r.map (Value.int .i64)) (by rfl) (by simp) (HSRC.out _ (by first | ((repeat (first | exact Kp.refl _ _ | exact Kp.drew _ _ | exact Kp.alloc _ _ _ | refine Kp.trans' ?_ (Kp.drew _ _) | refine Kp.trans' ?_ (Kp.alloc _ _ _))); done) | fail)) (one_ints _) (by unfold maxLen; omega) (by omega) HUC.out ?_
           intro v1 w4 hv hk hm
           have HV := hid (show Ints w4 v1 r by unfold Ints; simpa using hv)
           have HK := hid (Kp.trans (S := No) (a := w3) (by first | ((repeat (first | exact Kp.refl _ _ | exact Kp.drew _ _ | exact Kp.alloc _ _ _ | refine Kp.trans' ?_ (Kp.drew _ _) | refine Kp.trans' ?_ (Kp.alloc _ _ _))); done) | fail) hk (fun i hi he => by have he2 := Option.some.inj he; simp only [] at he2; omega))
           have HB := hid (moved_ge hm (B := w3.heap.size) (fun i he => by have he2 := Option.some.inj he; simp only [] at he2; omega) (by simp <;> omega))
           have HBk := hid (True.intro)
           have HC1 := hid (HXX.out _ HK.out)
           clear hv hk hm)
        | (refine step_append (by rfl) (.tmp 47) (.tmp 49) 23 (by rfl) el23 v1 r.length (r.map (Value.int .i64)) (by rfl) (Sl.kp (S := No) (by first | ((repeat (first | exact Kp.refl _ _ | exact Kp.drew _ _ | exact Kp.alloc _ _ _ | refine Kp.trans' ?_ (Kp.drew _ _) | refine Kp.trans' ?_ (Kp.alloc _ _ _))); done) | fail) HV.out (fun _ _ => id)) (some ⟨_, 0, none⟩) 1 1 [.int .i64 x] (by rfl) (by rfl) (fun _ => ⟨_, rfl, (by first | exact Blk.source (Blk.kp' HBk.out (by first | ((repeat (first | exact Kp.refl _ _ | exact Kp.drew _ _ | exact Kp.alloc _ _ _ | refine Kp.trans' ?_ (Kp.drew _ _) | refine Kp.trans' ?_ (Kp.alloc _ _ _))); done) | fail)) | exact cell_one_new _ _ _ | exact Blk.source ((Blk.new w4 3 [.int .i64 x]).kp' (Kp.drew No _)))⟩) (by intro u hu; simp at hu; subst hu; rfl) (by unfold maxLen; omega) (by omega) (fun e => by cases e) ?_
           intro v2 w5 hv hk hm
           have HV2 := hid (Row.snocI hv)
           have HK2 := hid (HK.out.trans (Kp.trans' (S := fun b => v1.ownBlock = some b) (by first | ((repeat (first | exact Kp.refl _ _ | exact Kp.drew _ _ | exact Kp.alloc _ _ _ | refine Kp.trans' ?_ (Kp.drew _ _) | refine Kp.trans' ?_ (Kp.alloc _ _ _))); done) | fail) hk) (by intro i hi he; have := HB.out i he; omega))
           have HC2 := hid (HXX.out _ HK2.out)
           clear hv hk hm)
        | (go_at_call 89; refine (with06 n _ v2 rows k (r ++ [x]) hkl hl _ (H3.out.kpN (HK2.out.trans' (by first | ((repeat (first | exact Kp.refl _ _ | exact Kp.drew _ _ | exact Kp.alloc _ _ _ | refine Kp.trans' ?_ (Kp.drew _ _) | refine Kp.trans' ?_ (Kp.alloc _ _ _))); done) | fail))) (HV2.out.kpN (by first | ((repeat (first | exact Kp.refl _ _ | exact Kp.drew _ _ | exact Kp.alloc _ _ _ | refine Kp.trans' ?_ (Kp.drew _ _) | refine Kp.trans' ?_ (Kp.alloc _ _ _))); done) | fail))).mono ?_
           rintro e w6 ⟨v6, rfl, hi6, hk6⟩
           have HI6 := hid hi6
           have HK6 := hid (HK2.out.trans' (Kp.trans' (by first | ((repeat (first | exact Kp.refl _ _ | exact Kp.drew _ _ | exact Kp.alloc _ _ _ | refine Kp.trans' ?_ (Kp.drew _ _) | refine Kp.trans' ?_ (Kp.alloc _ _ _))); done) | fail) hk6))
           have HB6 := hid (HB2.out.kp' HK6.out)
           have yy0 := HB6.out.cell (i := 0) rfl
           have yy1 := HB6.out.cell (i := 1) rfl
           have yyf0 := HB6.out.frozen 0
           have yyf1 := HB6.out.frozen 1
           have HC2 := hid (HXX.out _ HK6.out)
           obtain ⟨s6, c6, vs6, hv6, _, _⟩ := HI6.out.form
           subst hv6
           clear hi6 hk6))
  all_goals
    go_wp2_with fail
    have h3' := HB6.out.set 0 (.int .i64 n)
    have h4' := h3'.set 1 (.slice s6 rows.length c6)
    have z1 := h4'.cell (i := 0) rfl
    have z2 := h4'.cell (i := 1) rfl
    refine bodyPost_ret (v := .tuple #[.agg #[.int .i64 n, .slice s6 rows.length c6], .bool true]) (by simp [results, go_sem, z1, z2]) rfl ⟨_, rfl, ?_, ?_⟩
    · have h7 := HI6.out
      rw [List.length_set] at h7
      exact h7.kp (S := (· = w.heap.size + 1)) ((Kp.setCell (S := (· = w.heap.size + 1)) _ _ _ fun _ => rfl).trans' (Kp.setCell (S := (· = w.heap.size + 1)) _ _ _ fun _ => rfl)) (fun b hb _ => ⟨96, _, hb ▸ HB6.out, by decide, by decide⟩)
    · exact (HK3.out.trans' HK6.out).trans ((Kp.setCell (S := (w.heap.size ≤ ·)) _ _ _ fun _ => by show w.heap.size ≤ w.heap.size + 1; omega).trans' (Kp.setCell _ _ _ fun _ => by show w.heap.size ≤ w.heap.size + 1; omega)) (fun i hi he => by omega)

/-- Two boxes that a call makes at its begin: what came in, and the result. -/
theorem box2 (w : World) (a b c d : Value) : Kp No w ((w.alloc (.cells #[a, b] 96)).alloc (.cells #[c, d] 96)) ∧ Blk ((w.alloc (.cells #[a, b] 96)).alloc (.cells #[c, d] 96)) w.heap.size 96 [a, b] ∧ Blk ((w.alloc (.cells #[a, b] 96)).alloc (.cells #[c, d] 96)) (w.heap.size + 1) 96 [c, d] :=
  ⟨(Kp.alloc No w _).trans' (Kp.alloc No _ _), (Blk.new w 96 [a, b]).kp' (Kp.alloc No _ _), by simpa using Blk.new (w.alloc (.cells #[a, b] 96)) 96 [c, d]⟩

set_option maxHeartbeats 2000000 in
theorem drop06_no (n : Int) (v : Value) (rows : List (List Int)) (x : Int) (hl : rows.length ≤ 64) (hs : ∀ (k : Nat) (r : List Int), rows[k]? = some r → r.length ≤ 64)
    (hno : ∀ (j : Nat) (r : List Int), rows[j]? = some r → x ∉ r) (w : World) (h : IsRef w v rows) :
    Calls Try.prog 75 #[.agg #[.int .i64 n, v], .int .i64 x] w (With06b n rows false w) := by
  obtain ⟨so, cap, vs, rfl, _, _⟩ := h.form
  have X2 := hid (box2 w (.int .i64 n) (.slice so rows.length cap) (.int .i64 0) (.slice none 0 0))
  have H := hid h
  have HS := hid hs
  have HN := hid hno
  clear h hs hno
  go_enter Try.func75, Try.ntmps75
  go_wp2_with fail
  refine (in06 n _ rows x hl HS.out _ (H.out.kpN X2.out.1)).mono ?_
  rintro e w3 ⟨k3, b3, rfl, hio, hk3⟩
  have b1 := X2.out.2.1.kp' hk3
  have b2 := X2.out.2.2.kp' hk3
  have x0 := b1.cell (i := 0) rfl
  have x1 := b1.cell (i := 1) rfl
  have y0 := b2.cell (i := 0) rfl
  have y1 := b2.cell (i := 1) rfl
  have yf0 := b2.frozen 0
  have yf1 := b2.frozen 1
  have hb3 : b3 = false := by
    cases hb : b3 with
    | false => rfl
    | true =>
      obtain ⟨j, r, _, h1, h2⟩ := hio.yes hb
      exact absurd h2 (HN.out j r h1)
  subst hb3
  have HB2 := hid b2
  have HK3 := hid (X2.out.1.trans' hk3)
  clear hio hk3 b1 b2
  go_wp2_with fail
  have h3' := HB2.out.set 0 (.int .i64 n)
  have h4' := h3'.set 1 (.slice so rows.length cap)
  have z1 := h4'.cell (i := 0) rfl
  have z2 := h4'.cell (i := 1) rfl
  refine bodyPost_ret (v := .tuple #[.agg #[.int .i64 n, .slice so rows.length cap], .bool false]) (by simp [results, go_sem, z1, z2]) rfl ⟨_, rfl, ?_, ?_⟩
  · exact (H.out.kpN HK3.out).kp (S := (· = w.heap.size + 1)) ((Kp.setCell (S := (· = w.heap.size + 1)) _ _ _ fun _ => rfl).trans' (Kp.setCell (S := (· = w.heap.size + 1)) _ _ _ fun _ => rfl)) (fun b hb _ => ⟨96, _, hb ▸ HB2.out, by decide, by decide⟩)
  · exact HK3.out.trans ((Kp.setCell (S := (w.heap.size ≤ ·)) _ _ _ fun _ => by show w.heap.size ≤ w.heap.size + 1; omega).trans' (Kp.setCell _ _ _ fun _ => by show w.heap.size ≤ w.heap.size + 1; omega)) (fun i hi he => by omega)

set_option maxHeartbeats 4000000 in
theorem drop06_ok (n : Int) (v : Value) (rows : List (List Int)) (k : Nat) (r : List Int) (x : Int) (hl : rows.length ≤ 64) (hs : ∀ (k : Nat) (r : List Int), rows[k]? = some r → r.length ≤ 64)
    (hr : rows[k]? = some r) (hx : x ∈ r) (hone : ∀ (j : Nat) (r : List Int), rows[j]? = some r → x ∈ r → j = k) (w : World) (h : IsRef w v rows) :
    Calls Try.prog 75 #[.agg #[.int .i64 n, v], .int .i64 x] w (With06b n (rows.set k (without r x)) true w) := by
  obtain ⟨so, cap, vs, rfl, _, _⟩ := h.form
  have X2 := hid (box2 w (.int .i64 n) (.slice so rows.length cap) (.int .i64 0) (.slice none 0 0))
  have H := hid h
  have HS := hid hs
  have HO := hid hone
  have HR := hid hr
  have HX := hid hx
  have hrl := hs k r hr
  have hkl : k < rows.length := (List.getElem?_eq_some_iff.1 hr).1
  clear h hs hone hr hx
  go_enter Try.func75, Try.ntmps75
  go_wp2_with fail
  refine (in06 n _ rows x hl HS.out _ (H.out.kpN X2.out.1)).mono ?_
  rintro e w3 ⟨k3, b3, rfl, hio, hk3⟩
  have hb3 : b3 = true ∧ k3 = (k : Int) := by
    cases hb : b3 with
    | false => exact absurd HX.out ((hio.no hb).2 k r HR.out)
    | true =>
      obtain ⟨j, r', e, h1, h2⟩ := hio.yes hb
      exact ⟨rfl, by rw [e, HO.out j r' h1 h2]⟩
  obtain ⟨rfl, rfl⟩ := hb3
  have b1 := X2.out.2.1.kp' hk3
  have b2 := X2.out.2.2.kp' hk3
  have H3 := hid (H.out.kpN (X2.out.1.trans' hk3))
  obtain ⟨g, u, hso, hc, hu⟩ := H3.out.cell HR.out
  subst hso
  obtain ⟨uo, uc, rfl, _, huc⟩ := hu.form
  have x0 := b1.cell (i := 0) rfl
  have x1 := b1.cell (i := 1) rfl
  have HU := hid hu
  have hgne : g ≠ w.heap.size + 1 := by
    obtain ⟨vs3, _, hs3, _⟩ := H3.out.laid
    intro e
    exact hs3.ne b2 (by decide) (by rw [← e]; rfl)
  have hgne2 := hgne.symm
  have HB2 := hid b2
  have HK3 := hid (X2.out.1.trans' hk3)
  have HXX := hid (show ∀ w', Kp No w3 w' → w'.cell? ⟨w.heap.size, 0, none⟩ = some (.int .i64 n) ∧ w'.cell? ⟨w.heap.size, 1, none⟩ = some (.slice (some ⟨g, 0, none⟩) rows.length cap) ∧ w'.cell? ⟨g, k, none⟩ = some (.slice uo r.length uc) from fun w' hk => ⟨hk.cell x0 id, hk.cell x1 id, hk.cell hc id⟩)
  clear hio hk3 b1 b2 hu huc
  go_wp2_with fail
  go_region_held3 (fun w' => w'.cell? ⟨w.heap.size, 0, none⟩ = some (.int .i64 n) ∧ w'.cell? ⟨w.heap.size, 1, none⟩ = some (.slice (some ⟨g, 0, none⟩) rows.length cap) ∧ w'.cell? ⟨g, k, none⟩ = some (.slice uo r.length uc)) (first | exact HC2.out | exact HC1.out | exact HXX.out _ (by first | ((repeat (first | exact Kp.refl _ _ | exact Kp.drew _ _ | exact Kp.alloc _ _ _ | refine Kp.trans' ?_ (Kp.drew _ _) | refine Kp.trans' ?_ (Kp.alloc _ _ _))); done) | fail) | go_keep)
      (first
        | (go_at_call 81; refine (without06 _ r x (by omega) _ (HU.out.kpN (by first | ((repeat (first | exact Kp.refl _ _ | exact Kp.drew _ _ | exact Kp.alloc _ _ _ | refine Kp.trans' ?_ (Kp.drew _ _) | refine Kp.trans' ?_ (Kp.alloc _ _ _))); done) | fail))).mono ?_
           rintro e w5 ⟨v5, rfl, hv5, _, hk5⟩
           have HV5 := hid hv5
           have HK5 := hid (Kp.trans' (S := No) (a := w3) (by first | ((repeat (first | exact Kp.refl _ _ | exact Kp.drew _ _ | exact Kp.alloc _ _ _ | refine Kp.trans' ?_ (Kp.drew _ _) | refine Kp.trans' ?_ (Kp.alloc _ _ _))); done) | fail) hk5)
           have HC1 := hid (HXX.out _ HK5.out)
           clear hv5 hk5)
        | (go_at_call 89; refine (with06 n _ v5 rows k (without r x) hkl hl _ (H3.out.kpN (HK5.out.trans' (by first | ((repeat (first | exact Kp.refl _ _ | exact Kp.drew _ _ | exact Kp.alloc _ _ _ | refine Kp.trans' ?_ (Kp.drew _ _) | refine Kp.trans' ?_ (Kp.alloc _ _ _))); done) | fail))) (HV5.out.kpN (by first | ((repeat (first | exact Kp.refl _ _ | exact Kp.drew _ _ | exact Kp.alloc _ _ _ | refine Kp.trans' ?_ (Kp.drew _ _) | refine Kp.trans' ?_ (Kp.alloc _ _ _))); done) | fail))).mono ?_
           rintro e w6 ⟨v6, rfl, hi6, hk6⟩
           have HI6 := hid hi6
           have HK6 := hid (HK5.out.trans' (Kp.trans' (by first | ((repeat (first | exact Kp.refl _ _ | exact Kp.drew _ _ | exact Kp.alloc _ _ _ | refine Kp.trans' ?_ (Kp.drew _ _) | refine Kp.trans' ?_ (Kp.alloc _ _ _))); done) | fail) hk6))
           have HB6 := hid (HB2.out.kp' HK6.out)
           have yy0 := HB6.out.cell (i := 0) rfl
           have yy1 := HB6.out.cell (i := 1) rfl
           have yyf0 := HB6.out.frozen 0
           have yyf1 := HB6.out.frozen 1
           have HC2 := hid (HXX.out _ HK6.out)
           obtain ⟨s6, c6, vs6, hv6, _, _⟩ := HI6.out.form
           subst hv6
           clear hi6 hk6))
  all_goals
    go_wp2_with fail
    have h3' := HB6.out.set 0 (.int .i64 n)
    have h4' := h3'.set 1 (.slice s6 rows.length c6)
    have z1 := h4'.cell (i := 0) rfl
    have z2 := h4'.cell (i := 1) rfl
    refine bodyPost_ret (v := .tuple #[.agg #[.int .i64 n, .slice s6 rows.length c6], .bool true]) (by simp [results, go_sem, z1, z2]) rfl ⟨_, rfl, ?_, ?_⟩
    · have h7 := HI6.out
      rw [List.length_set] at h7
      exact h7.kp (S := (· = w.heap.size + 1)) ((Kp.setCell (S := (· = w.heap.size + 1)) _ _ _ fun _ => rfl).trans' (Kp.setCell (S := (· = w.heap.size + 1)) _ _ _ fun _ => rfl)) (fun b hb _ => ⟨96, _, hb ▸ HB6.out, by decide, by decide⟩)
    · exact (HK3.out.trans' HK6.out).trans ((Kp.setCell (S := (w.heap.size ≤ ·)) _ _ _ fun _ => by show w.heap.size ≤ w.heap.size + 1; omega).trans' (Kp.setCell _ _ _ fun _ => by show w.heap.size ≤ w.heap.size + 1; omega)) (fun i hi he => by omega)

/-- What the reference's Pop answers with. -/
def With06p (n : Int) (rows : List (List Int)) (x : Int) (b : Bool) (w0 : World) (e : Ending) (w' : World) : Prop := ∃ v, e = .returned (.tuple #[.agg #[.int .i64 n, v], .int .i64 x, .bool b]) ∧ IsRef w' v rows ∧ Kp No w0 w'

set_option maxHeartbeats 2000000 in
theorem pop06_nil (n : Int) (v : Value) (rows : List (List Int)) (k : Int) (hl : rows.length ≤ 64) (hk : rowAt rows k = []) (w : World) (h : IsRef w v rows) :
    Calls Try.prog 73 #[.agg #[.int .i64 n, v], .int .i64 k] w (With06p n rows 0 false w) := by
  obtain ⟨so, cap, vs, rfl, _, _⟩ := h.form
  have X2 := hid (box2 w (.int .i64 n) (.slice so rows.length cap) (.int .i64 0) (.slice none 0 0))
  have H := hid h
  have HN := hid hk
  clear h hk
  go_enter Try.func73, Try.ntmps73
  go_wp2_with fail
  refine (first06_nil n _ rows k hl HN.out _ (H.out.kpN X2.out.1)).mono ?_
  rintro e w3 ⟨rfl, hk3⟩
  have b1 := X2.out.2.1.kp' hk3
  have b2 := X2.out.2.2.kp' hk3
  have x0 := b1.cell (i := 0) rfl
  have x1 := b1.cell (i := 1) rfl
  have y0 := b2.cell (i := 0) rfl
  have y1 := b2.cell (i := 1) rfl
  have yf0 := b2.frozen 0
  have yf1 := b2.frozen 1
  have HB2 := hid b2
  have HK3 := hid (X2.out.1.trans' hk3)
  clear hk3 b1 b2
  go_wp2_with fail
  have h3' := HB2.out.set 0 (.int .i64 n)
  have h4' := h3'.set 1 (.slice so rows.length cap)
  have z1 := h4'.cell (i := 0) rfl
  have z2 := h4'.cell (i := 1) rfl
  refine bodyPost_ret (v := .tuple #[.agg #[.int .i64 n, .slice so rows.length cap], .int .i64 0, .bool false]) (by simp [results, go_sem, z1, z2]) rfl ⟨_, rfl, ?_, ?_⟩
  · exact (H.out.kpN HK3.out).kp (S := (· = w.heap.size + 1)) ((Kp.setCell (S := (· = w.heap.size + 1)) _ _ _ fun _ => rfl).trans' (Kp.setCell (S := (· = w.heap.size + 1)) _ _ _ fun _ => rfl)) (fun b hb _ => ⟨96, _, hb ▸ HB2.out, by decide, by decide⟩)
  · exact HK3.out.trans ((Kp.setCell (S := (w.heap.size ≤ ·)) _ _ _ fun _ => by show w.heap.size ≤ w.heap.size + 1; omega).trans' (Kp.setCell _ _ _ fun _ => by show w.heap.size ≤ w.heap.size + 1; omega)) (fun i hi he => by omega)

set_option maxHeartbeats 4000000 in
theorem pop06_cons (n : Int) (v : Value) (rows : List (List Int)) (k : Nat) (x : Int) (s : List Int) (hl : rows.length ≤ 64) (hs : ∀ (k : Nat) (r : List Int), rows[k]? = some r → r.length ≤ 64)
    (hr : rows[k]? = some (x :: s)) (hone : ∀ (j : Nat) (r : List Int), rows[j]? = some r → x ∈ r → j = k) (w : World) (h : IsRef w v rows) :
    Calls Try.prog 73 #[.agg #[.int .i64 n, v], .int .i64 k] w (With06p n (rows.set k (without (x :: s) x)) x true w) := by
  obtain ⟨so, cap, vs, rfl, _, _⟩ := h.form
  have X2 := hid (box2 w (.int .i64 n) (.slice so rows.length cap) (.int .i64 0) (.slice none 0 0))
  have H := hid h
  have HS := hid hs
  have HO := hid hone
  have HR := hid hr
  clear h hs hone hr
  go_enter Try.func73, Try.ntmps73
  go_wp2_with fail
  refine (first06_cons n _ rows k x s hl (HS.out _ _ HR.out) (rowAt_nat HR.out) _ (H.out.kpN X2.out.1)).mono ?_
  rintro e w3 ⟨rfl, hk3⟩
  have b1 := X2.out.2.1.kp' hk3
  have x0 := b1.cell (i := 0) rfl
  have x1 := b1.cell (i := 1) rfl
  have HK3 := hid (X2.out.1.trans' hk3)
  have HB2 := hid (X2.out.2.2.kp' hk3)
  clear hk3 b1
  go_wp2_with fail
  refine (drop06_ok n _ rows k (x :: s) x hl HS.out HR.out (by simp) HO.out _ (H.out.kpN HK3.out)).mono ?_
  rintro e w4 ⟨v4, rfl, hi4, hk4⟩
  obtain ⟨s4, c4, vs4, rfl, _, _⟩ := hi4.form
  rw [List.length_set] at hi4
  rw [List.length_set]
  have h4 := HB2.out.kp' hk4
  have h5 := h4.kp' (Kp.alloc No _ (.cells #[.int .i64 n, .slice s4 rows.length c4] 96))
  have yf0 := h5.frozen 0
  have yf1 := h5.frozen 1
  have y0 := h5.cell (i := 0) rfl
  have y1 := h5.cell (i := 1) rfl
  have hne : w4.heap.size ≠ w.heap.size + 1 := by have := h4.lt; omega
  have hne2 := hne.symm
  have HB4 := hid h5
  have HI4 := hid hi4
  have HK4 := hid (HK3.out.trans' hk4)
  clear hi4 hk4 h4 h5
  go_wp2_with fail
  have h3' := HB4.out.set 0 (.int .i64 n)
  have h4' := h3'.set 1 (.slice s4 rows.length c4)
  have z1 := h4'.cell (i := 0) rfl
  have z2 := h4'.cell (i := 1) rfl
  refine bodyPost_ret (v := .tuple #[.agg #[.int .i64 n, .slice s4 rows.length c4], .int .i64 x, .bool true]) (by simp [results, go_sem, z1, z2]) rfl ⟨_, rfl, ?_, ?_⟩
  · exact (HI4.out.kpN (Kp.alloc No _ _)).kp (S := (· = w.heap.size + 1)) ((Kp.setCell (S := (· = w.heap.size + 1)) _ _ _ fun _ => rfl).trans' (Kp.setCell (S := (· = w.heap.size + 1)) _ _ _ fun _ => rfl)) (fun b hb _ => ⟨96, _, hb ▸ HB4.out, by decide, by decide⟩)
  · exact (HK4.out.trans' (Kp.alloc No _ _)).trans ((Kp.setCell (S := (w.heap.size ≤ ·)) _ _ _ fun _ => by show w.heap.size ≤ w.heap.size + 1; omega).trans' (Kp.setCell _ _ _ fun _ => by show w.heap.size ≤ w.heap.size + 1; omega)) (fun i hi he => by omega)
end Go.Proofs.Ytijpdeanbkodkaa
