/-
  The contracts of the reference of package queue: rows of numbers.
-/
import Derived.Test.YtijpdeanbkodkaaQueueRow3
namespace Go.Proofs.Ytijpdeanbkodkaa
open Go.RowKit
set_option maxRecDepth 100000

theorem el94 : Elem Try.prog 94 23 [.slice none 0 0] 24 := Elem.of Try.underlying94 (by kernel_rfl : (Try.prog.info? 23).map (fun i => (i.zero, i.size, i.bytes)) = some (some (.slice none 0 0), 1, 24)) rfl (by decide)

/-- Rows of numbers: a slice of slices. -/
structure IsRef (w : World) (v : Value) (rows : List (List Int)) : Prop where
  laid : ∃ vs, vs.length = rows.length ∧ Sl w 23 1 v rows.length vs ∧ ∀ (k : Nat) (r : List Int), rows[k]? = some r → ∃ u, vs[k]? = some u ∧ Ints w u r

/-- A set of blocks that holds neither numbers nor slices of them. -/
def Off (w : World) (S : Nat → Prop) : Prop := ∀ b, S b → b < w.heap.size → ∃ t cs, Blk w b t cs ∧ t ≠ 23 ∧ t ≠ 3

theorem Sl.notin {w : World} {S : Nat → Prop} (h : Off w S) {e : TypeId} {sz n : Nat} {v : Value} {cs : List Value} (hv : Sl w e sz v n cs) (he : e = 23 ∨ e = 3) : ∀ k, v.ownBlock = some k → ¬ S k := by
  intro k hk hs
  obtain ⟨t, ds, hb, h1, h2⟩ := h k hs (hv.lt hk)
  refine hv.ne hb ?_ hk
  rcases he with rfl | rfl
  · exact Ne.symm h1
  · exact Ne.symm h2
theorem IsRef.kp {w w' : World} {v : Value} {rows : List (List Int)} {S : Nat → Prop} (h : IsRef w v rows) (hk : Kp S w w') (ho : Off w S) : IsRef w' v rows := by
  obtain ⟨vs, h1, h2, h3⟩ := h
  refine ⟨vs, h1, Sl.kp hk h2 (h2.notin ho (.inl rfl)), fun k r hr => ?_⟩
  obtain ⟨u, hu, hi⟩ := h3 k r hr
  exact ⟨u, hu, Sl.kp hk hi (hi.notin ho (.inr rfl))⟩
theorem Off.no (w : World) : Off w No := fun _ h => h.elim
theorem IsRef.kpN {w w' : World} {v : Value} {rows : List (List Int)} (h : IsRef w v rows) (hk : Kp No w w') : IsRef w' v rows := h.kp hk (Off.no w)

/-- What the walk reads of them. -/
theorem IsRef.form {w : World} {v : Value} {rows : List (List Int)} (h : IsRef w v rows) : ∃ so cap vs, v = .slice so rows.length cap ∧ (so = none → cap = 0) ∧ vs.length = rows.length ∧ Sl w 23 1 v rows.length vs ∧ ∀ (k : Nat) (r : List Int), rows[k]? = some r → ∃ u, vs[k]? = some u ∧ Ints w u r := by
  obtain ⟨vs, h1, h2, h3⟩ := h
  obtain ⟨so, cap, rfl, _, h5⟩ := h2.form
  exact ⟨so, cap, vs, rfl, h5, h1, h2, h3⟩
/-- A row's cell. -/
theorem IsRef.cell {w : World} {so : Option Addr} {n cap : Nat} {rows : List (List Int)} (h : IsRef w (.slice so n cap) rows) {k : Nat} {r : List Int} (hr : rows[k]? = some r) : ∃ g u, so = some ⟨g, 0, none⟩ ∧ w.cell? ⟨g, k, none⟩ = some u ∧ Ints w u r := by
  obtain ⟨vs, h1, h2, h3⟩ := h
  obtain ⟨u, hu, hi⟩ := h3 k r hr
  obtain ⟨so', cap', he, _, _⟩ := h2.form
  simp at he
  obtain ⟨rfl, rfl, rfl⟩ := he
  have hk : k < rows.length := (List.getElem?_eq_some_iff.1 hr).1
  obtain ⟨g, rfl⟩ := Sl.at_ h2 (by omega)
  exact ⟨g, u, rfl, Sl.cell h2 hu, hi⟩

set_option maxHeartbeats 1000000 in
theorem first06_nil (n : Int) (v : Value) (rows : List (List Int)) (k : Int) (_ : rows.length ≤ 64) (hk : rowAt rows k = []) (w : World) (h : IsRef w v rows) :
    Calls Try.prog 78 #[.agg #[.int .i64 n, v], .int .i64 k] w fun e w' => e = .returned (.tuple #[.int .i64 0, .bool false]) ∧ Kp No w w' := by
  obtain ⟨so, cap, vs, rfl, _, _⟩ := h.form
  have HKA := hid (Kp.alloc No w (.cells #[.int .i64 n, .slice so rows.length cap] 96))
  rcases (show k < 0 ∨ (0 ≤ k ∧ rows.length ≤ k) ∨ (0 ≤ k ∧ k < rows.length) by omega) with h1 | ⟨h1, h2⟩ | ⟨h1, h2⟩
  · clear h hk
    go_enter Try.func78, Try.ntmps78
    go_wp2_with fail
    go_ret2
    exact ⟨rfl, HKA.out⟩
  · clear h hk
    go_enter Try.func78, Try.ntmps78
    go_wp2_with fail
    go_ret2
    exact ⟨rfl, HKA.out⟩
  · obtain ⟨K, rfl⟩ := Int.eq_ofNat_of_zero_le h1
    have hK : K < rows.length := by omega
    have hr := List.getElem?_eq_getElem hK
    have hr2 := rowAt_nat hr
    rw [hk] at hr2
    rw [← hr2] at hr
    obtain ⟨g, u, rfl, hc, hu⟩ := h.cell hr
    obtain ⟨uo, uc, rfl, _, _⟩ := hu.form
    have hc2 := HKA.out.cell hc id
    have hgl := block_lt_of_cell hc
    have hgn : g ≠ w.heap.size := by simp at hgl; omega
    clear h hk hr hr2 hu hc
    go_enter Try.func78, Try.ntmps78
    go_wp2_with fail
    go_ret2
    exact ⟨rfl, HKA.out⟩

set_option maxHeartbeats 1000000 in
theorem first06_cons (n : Int) (v : Value) (rows : List (List Int)) (k : Int) (x : Int) (s : List Int) (_ : rows.length ≤ 64) (hs : (x :: s).length ≤ 64) (hk : rowAt rows k = x :: s) (w : World) (h : IsRef w v rows) :
    Calls Try.prog 78 #[.agg #[.int .i64 n, v], .int .i64 k] w fun e w' => e = .returned (.tuple #[.int .i64 x, .bool true]) ∧ Kp No w w' := by
  obtain ⟨so, cap, vs, rfl, _, _⟩ := h.form
  have HKA := hid (Kp.alloc No w (.cells #[.int .i64 n, .slice so rows.length cap] 96))
  obtain ⟨K, rfl, hr⟩ := rowAt_some (rows := rows) (k := k) (by rw [hk]; simp)
  rw [hk] at hr
  have hK : K < rows.length := (List.getElem?_eq_some_iff.1 hr).1
  obtain ⟨g, u, rfl, hc, hu⟩ := h.cell hr
  obtain ⟨uo, uc, rfl, _, _⟩ := hu.form
  obtain ⟨ug, hug⟩ := Sl.at_ hu (by simp)
  subst hug
  have hc2 := HKA.out.cell hc id
  have hd := Sl.cell hu (j := 0) (u := .int .i64 x) rfl
  have hd2 := HKA.out.cell hd id
  have hgl := block_lt_of_cell hc
  have hgn : g ≠ w.heap.size := by simp at hgl; omega
  have hgl2 := block_lt_of_cell hd
  have hgn2 : ug ≠ w.heap.size := by simp at hgl2; omega
  have hsl : 0 < s.length + 1 := by omega
  have hs0 : ((s.length : Int) + 1 == 0) = false := by simp; omega
  have hsz : s.length ≤ 64 := by simp at hs; omega
  clear h hk hr hu hc hd
  go_enter Try.func78, Try.ntmps78
  go_wp2_with fail
  go_ret2
  exact ⟨rfl, HKA.out⟩

/-- In which row a thing is. -/
def InOut (rows : List (List Int)) (x k : Int) (b : Bool) : Prop := (b = true ∧ ∃ (j : Nat) (r : List Int), k = (j : Int) ∧ rows[j]? = some r ∧ x ∈ r) ∨ (b = false ∧ k = 0 ∧ ∀ (j : Nat) (r : List Int), rows[j]? = some r → x ∉ r)
def In06 (rows : List (List Int)) (x : Int) (w0 : World) (e : Ending) (w' : World) : Prop := ∃ k b, e = .returned (.tuple #[.int .i64 k, .bool b]) ∧ InOut rows x k b ∧ Kp No w0 w'

set_option maxHeartbeats 1000000 in
theorem in06 (n : Int) (v : Value) (rows : List (List Int)) (x : Int) (_ : rows.length ≤ 64) (hs : ∀ (k : Nat) (r : List Int), rows[k]? = some r → r.length ≤ 64) (w : World) (h : IsRef w v rows) :
    Calls Try.prog 80 #[.agg #[.int .i64 n, v], .int .i64 x] w (In06 rows x w) := by
  obtain ⟨so, cap, vs, rfl, _, _⟩ := h.form
  have HKA := hid (Kp.alloc No w (.cells #[.int .i64 n, .slice so rows.length cap] 96))
  have HS := hid hs
  have H := hid h
  clear h hs
  go_enter Try.func80, Try.ntmps80
  go_wp2_with fail
  go_loopw [13] (fun i wr => ∃ k : Nat, k ≤ rows.length ∧ i = .int .i64 k ∧ (∀ (j : Nat) (r : List Int), j < k → rows[j]? = some r → x ∉ r) ∧ wr = w.alloc (.cells #[.int .i64 n, .slice so rows.length cap] 96)) (fun i _ => rows.length - (intOf i).toNat)
  case atStart => exact ⟨0, Nat.zero_le _, rfl, fun j r h => by omega, rfl⟩
  case round =>
    obtain ⟨k, hk, rfl, hno, hwr⟩ := hrel
    have HK := hid (show Kp No w wr by rw [hwr]; exact HKA.out)
    have HNO := hid hno
    have HWR := hid hwr
    clear hno hwr
    by_cases hlt : k < rows.length
    · have hr := List.getElem?_eq_getElem hlt
      generalize rows[k] = r at hr
      have hrl := HS.out k r hr
      obtain ⟨g, u, hso, hc0, hu0⟩ := H.out.cell hr
      subst hso
      have hc := HK.out.cell hc0 id
      have hu := hu0.kpN HK.out
      obtain ⟨uo, uc, rfl, _, _⟩ := hu.form
      have HR := hid hr
      have HU := hid hu
      clear hr hc0 hu0 hu
      go_wp2_with fail
      go_loopw [20] (fun i wx => ∃ j : Nat, j ≤ r.length ∧ i = .int .i64 j ∧ x ∉ r.take j ∧ wx = wr) (fun i _ => r.length - (intOf i).toNat)
      case atStart => exact ⟨0, Nat.zero_le _, rfl, by simp, rfl⟩
      case round =>
        obtain ⟨j, hj, rfl, hnj, rfl⟩ := hrel
        have HNJ := hid hnj
        clear hnj
        by_cases hlt2 : j < r.length
        · obtain ⟨ug, hug⟩ := Sl.at_ HU.out (by omega)
          subst hug
          have hd := Sl.cell HU.out (j := j) (u := .int .i64 r[j]) (by simp [hlt2])
          have hmem := List.getElem_mem hlt2
          have hts : r.take (j + 1) = r.take j ++ [r[j]] := List.take_succ_eq_append_getElem hlt2
          have HM := hid hmem
          have HT := hid hts
          clear hmem hts
          generalize r[j] = y at *
          by_cases hy : y = x
          · have hyb : (y == x) = true := by simp [hy]
            have HM2 := hid (hy ▸ HM.out)
            clear hy HM HT
            go_wp2_with fail
            go_ret2
            exact ⟨_, _, rfl, .inl ⟨rfl, k, r, rfl, HR.out, HM2.out⟩, HK.out⟩
          · have hyb : (y == x) = false := by simp [hy]
            have HN2 := hid (show x ∉ r.take (j + 1) by rw [HT.out, List.mem_append]; intro hm; rcases hm with hm | hm; exact HNJ.out hm; exact hy (List.mem_singleton.1 hm).symm)
            clear hy HM HT
            go_wp2_with fail
            go_roundw
            case rel => exact ⟨j + 1, by omega, by go_num, HN2.out, by trivial⟩
            case measure => simp [intOf]; omega
        · obtain rfl : j = r.length := by omega
          rw [List.take_length] at HNJ
          go_wp2_with fail
          go_roundw
          case rel => exact ⟨k + 1, by omega, by go_num, fun i r' hi hr' => by
            by_cases e : i = k
            · subst e; rw [HR.out] at hr'; cases hr'; exact HNJ.out
            · exact HNO.out i r' (by omega) hr', HWR.out⟩
          case measure => simp [intOf]; omega
    · go_wp2_with fail
      go_ret2
      exact ⟨_, _, rfl, .inr ⟨rfl, rfl, fun j r hr => HNO.out j r (by have := (List.getElem?_eq_some_iff.1 hr).1; omega) hr⟩, HK.out⟩

/-- A struct of rows that a reference answers with. -/
def With06 (n : Int) (rows : List (List Int)) (w0 : World) (e : Ending) (w' : World) : Prop := ∃ v, e = .returned (.agg #[.int .i64 n, v]) ∧ IsRef w' v rows ∧ Kp No w0 w'

theorem IsRef.of_set {w : World} {g : Nat} {n c : Nat} {rows : List (List Int)} {vs : List Value} (hl : vs.length = rows.length) (hs : Sl w 23 1 (.slice (some ⟨g, 0, none⟩) n c) rows.length vs) (hr : ∀ (k : Nat) (r : List Int), rows[k]? = some r → ∃ u, vs[k]? = some u ∧ Ints w u r) {k : Nat} {u : Value} {r : List Int} (hk : k < rows.length) (hu : Ints w u r) (hn : n = rows.length) :
    IsRef (w.setCell ⟨g, k, none⟩ u) (.slice (some ⟨g, 0, none⟩) n c) (rows.set k r) := by
  subst hn
  have hb : ∃ ds, Blk w g 23 ds := by
    rcases hs.2 with ⟨h, _⟩ | ⟨g', cap, cur, he, _, hg, _⟩
    · simp at h
    · simp at he
      obtain ⟨rfl, rfl⟩ := he
      exact ⟨cur.toList, by unfold Blk; simpa using hg⟩
  obtain ⟨ds, hb⟩ := hb
  have hkp : Kp (· = g) w (w.setCell ⟨g, k, none⟩ u) := Kp.setCell _ _ _ fun _ => rfl
  have keep : ∀ {u' : Value} {r' : List Int}, Ints w u' r' → Ints (w.setCell ⟨g, k, none⟩ u) u' r' := fun hi => Sl.kp hkp hi (fun b h1 h2 => hi.ne hb (by decide) (h2 ▸ h1))
  refine ⟨vs.set k u, by simp [hl], by rw [List.length_set]; exact hs.set k u, fun j r' hr' => ?_⟩
  by_cases e : k = j
  · subst e
    rw [List.getElem?_set_self hk] at hr'
    cases hr'
    exact ⟨u, List.getElem?_set_self (by omega), keep hu⟩
  · rw [List.getElem?_set_ne e] at hr' ⊢
    obtain ⟨u', h1, h2⟩ := hr j r' hr'
    exact ⟨u', h1, keep h2⟩

set_option maxHeartbeats 1000000 in
theorem with06 (n : Int) (v u : Value) (rows : List (List Int)) (k : Nat) (r : List Int) (hk : k < rows.length) (hl : rows.length ≤ 64) (w : World) (h : IsRef w v rows) (hu : Ints w u r) :
    Calls Try.prog 89 #[.agg #[.int .i64 n, v], .int .i64 k, u] w (With06 n (rows.set k r) w) := by
  obtain ⟨so, cap, vs, rfl, hsn, hvl, hsl, hrs⟩ := h.form
  obtain ⟨uo, uc, rfl, _, _⟩ := hu.form
  have HKA := hid (Kp.alloc No w (.cells #[.int .i64 n, .slice so rows.length cap] 96))
  have HSL := hid hsl
  have HRS := hid hrs
  have HVL := hid hvl
  have HU := hid hu
  obtain ⟨g, hso⟩ := Sl.at_ hsl (by omega)
  subst hso
  have HSRC := hid (Sl.source hsl)
  have HONE : Hid (∀ x ∈ vs, x.oneCell' = true) := fun x hx => by
    obtain ⟨i, hi⟩ := List.mem_iff_getElem?.1 hx
    have hil := (List.getElem?_eq_some_iff.1 hi).1
    obtain ⟨u', hu', hiu⟩ := hrs i _ (List.getElem?_eq_getElem (by omega))
    rw [hi] at hu'
    cases hu'
    obtain ⟨so', cap', rfl, _, _⟩ := hiu.form
    rfl
  have B1 := hid (((Blk.new w 96 [.int .i64 n, .slice (some ⟨g, 0, none⟩) rows.length cap]).kp' (Kp.alloc No _ (.cells #[.int .i64 0, .slice none 0 0] 96))).kp' (Kp.alloc No _ (.cells #[] 23)))
  have B2 := hid ((show Blk ((w.alloc (.cells #[.int .i64 n, .slice (some ⟨g, 0, none⟩) rows.length cap] 96)).alloc (.cells #[.int .i64 0, .slice none 0 0] 96)) (w.heap.size + 1) 96 [.int .i64 0, .slice none 0 0] by simpa using Blk.new (w.alloc (.cells #[.int .i64 n, .slice (some ⟨g, 0, none⟩) rows.length cap] 96)) 96 [.int .i64 0, .slice none 0 0]).kp' (Kp.alloc No _ (.cells #[] 23)))
  have B3 := hid (show Blk (((w.alloc (.cells #[.int .i64 n, .slice (some ⟨g, 0, none⟩) rows.length cap] 96)).alloc (.cells #[.int .i64 0, .slice none 0 0] 96)).alloc (.cells #[] 23)) (w.heap.size + 1 + 1) 23 [] by simpa using Blk.new ((w.alloc (.cells #[.int .i64 n, .slice (some ⟨g, 0, none⟩) rows.length cap] 96)).alloc (.cells #[.int .i64 0, .slice none 0 0] 96)) 23 [])
  have K3 := hid (((Kp.alloc No w (.cells #[.int .i64 n, .slice (some ⟨g, 0, none⟩) rows.length cap] 96)).trans' (Kp.alloc No _ (.cells #[.int .i64 0, .slice none 0 0] 96))).trans' (Kp.alloc No _ (.cells #[] 23)))
  clear h hsl hrs hvl hu hsn
  go_enter Try.func89, Try.ntmps89
  go_wp2_with (at_builtin; refine wpl_append rfl (.tmp 8) (.tmp 10) 94 rfl el94 _ 0 [] rfl (Sl.of_blk B3.out 1 0 rfl (by decide)) (some ⟨g, 0, none⟩) rows.length cap vs rfl (by have := HVL.out; simpa using this) (fun _ => ⟨_, rfl, fun j x hx => K3.out.cell (HSRC.out j x hx) id⟩) HONE.out (by unfold maxLen; omega) (by omega) (fun e => by cases e) ?_; intro v' w4 hv hk4 hm; rw [Nat.zero_add, List.nil_append] at hv; obtain ⟨g', cap', hv', _, _⟩ := hv.shape (by omega); subst hv'; have hg' : w.heap.size + 1 + 1 ≤ g' := moved_ge hm (by intro b hb; cases hb <;> exact Nat.le_refl _) (by simp) g' rfl; have hg2 : g' ≠ w.heap.size + 1 := Nat.ne_of_gt hg'; have hg1 : g' ≠ w.heap.size := Nat.ne_of_gt (Nat.lt_of_succ_lt hg'); have b1 := hk4.blk B1.out (fun e => absurd (Option.some.inj e) (show w.heap.size + 1 + 1 ≠ w.heap.size by omega)); have b2 := hk4.blk B2.out (fun e => absurd (Option.some.inj e) (show w.heap.size + 1 + 1 ≠ w.heap.size + 1 by omega)); have HV := hid hv; have HB2 := hid b2; have HK4 := hid (K3.out.trans hk4 (fun i hi he => absurd (show w.heap.size + 1 + 1 = i from Option.some.inj he) (by omega))); have x0 := b1.cell (i := 0) rfl; have y0 := b2.cell (i := 0) rfl; have y1 := b2.cell (i := 1) rfl; have yf0 := b2.frozen 0; have yf1 := b2.frozen 1; have gf := hv.frozen k; have gc := hv.cell (j := k) (List.getElem?_eq_getElem (by have := HVL.out; omega)); clear hv hk4 hm b1 b2)
  have h2 := HB2.out.off' g' k (.slice uo r.length uc) (Ne.symm hg2)
  have h3 := h2.set 0 (.int .i64 n)
  have h4 := h3.set 1 (.slice (some ⟨g', 0, none⟩) rows.length cap')
  have z1 := h4.cell (i := 0) rfl
  have z2 := h4.cell (i := 1) rfl
  refine bodyPost_ret (v := .agg #[.int .i64 n, .slice (some ⟨g', 0, none⟩) rows.length cap']) (by simp [results, go_sem, z1, z2]) rfl ⟨_, rfl, ?_, ?_⟩
  · have h1 := IsRef.of_set HVL.out HV.out (fun k r hr => by obtain ⟨u, hu, hi⟩ := HRS.out k r hr; exact ⟨u, hu, hi.kpN HK4.out⟩) hk (HU.out.kpN HK4.out) rfl
    exact h1.kp (S := (· = w.heap.size + 1)) ((Kp.setCell (S := (· = w.heap.size + 1)) _ _ _ fun _ => rfl).trans' (Kp.setCell (S := (· = w.heap.size + 1)) _ _ _ fun _ => rfl)) (fun b hb _ => ⟨96, _, hb ▸ h2, by decide, by decide⟩)
  · exact HK4.out.trans (((Kp.setCell (S := (w.heap.size ≤ ·)) _ _ _ fun _ => by show w.heap.size ≤ g'; omega).trans' (Kp.setCell _ _ _ fun _ => by show w.heap.size ≤ w.heap.size + 1; omega)).trans' (Kp.setCell _ _ _ fun _ => by show w.heap.size ≤ w.heap.size + 1; omega)) (fun i hi he => by omega)

/-- What the reference answers with beside a bool. -/
def With06b (n : Int) (rows : List (List Int)) (b : Bool) (w0 : World) (e : Ending) (w' : World) : Prop := ∃ v, e = .returned (.tuple #[.agg #[.int .i64 n, v], .bool b]) ∧ IsRef w' v rows ∧ Kp No w0 w'

theorem Row.snocI {w : World} {v : Value} {r : List Int} {x : Int} (h : Sl w 3 1 v (r.length + 1) (r.map (Value.int .i64) ++ [.int .i64 x])) : Ints w v (r ++ [x]) := by unfold Ints; simpa using h
end Go.Proofs.Ytijpdeanbkodkaa
