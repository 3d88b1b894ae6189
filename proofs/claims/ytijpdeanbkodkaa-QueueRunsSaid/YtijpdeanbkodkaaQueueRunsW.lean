/-
  The walk of the law QueueRuns.
-/
import Derived.Test.YtijpdeanbkodkaaQueueRowsW
import Derived.Test.YtijpdeanbkodkaaQueueRef2
namespace Go.Proofs.Ytijpdeanbkodkaa
open Go.RowKit
set_option maxRecDepth 100000

theorem IsQ.off {w : World} {p tq eq n : Nat} {rows : List (List Int)} (h : IsQ w p tq eq n rows) : Off w (fun i => i = tq ∨ i = eq) := by
  obtain ⟨ties, ends, h1, _⟩ := h
  intro b hb _
  rcases hb with rfl | rfl
  · exact ⟨127, _, h1.tie, by decide, by decide⟩
  · exact ⟨129, _, h1.endb, by decide, by decide⟩
theorem IsQ.lt {w : World} {p tq eq n : Nat} {rows : List (List Int)} (h : IsQ w p tq eq n rows) : p < w.heap.size ∧ tq < w.heap.size ∧ eq < w.heap.size := by
  obtain ⟨ties, ends, h1, _⟩ := h
  exact ⟨h1.head.lt, h1.tie.lt, h1.endb.lt⟩
theorem IsQ.sepQ {w : World} {p tq eq n : Nat} {rows : List (List Int)} (h : IsQ w p tq eq n rows) {k j : Nat} {l m : List Int} (hk : rows[k]? = some l) (hj : rows[j]? = some m) {x : Int} (hx : x ∈ l) (hy : x ∈ m) : k = j := by
  obtain ⟨ties, ends, _, h2⟩ := h
  exact h2.sep hk hj hx hy
theorem IsQ.ne96 {w : World} {p tq eq n : Nat} {rows : List (List Int)} (h : IsQ w p tq eq n rows) {b : Nat} {cs : List Value} (hb : Blk w b 96 cs) : p ≠ b ∧ tq ≠ b ∧ eq ≠ b := by
  obtain ⟨ties, ends, h1, _⟩ := h
  exact ⟨h1.head.ne hb (by decide), h1.tie.ne hb (by decide), h1.endb.ne hb (by decide)⟩

/-- The program's queues, the reference's, and the reference's box, hold the same rows. -/
structure Both (w : World) (p tq eq n b : Nat) (v : Value) (rows : List (List Int)) : Prop where
  q : IsQ w p tq eq n rows
  box : Blk w b 96 [.int .i64 n, v]
  ref : IsRef w v rows

theorem Both.kpN {w w' : World} {p tq eq n b : Nat} {v : Value} {rows : List (List Int)} (h : Both w p tq eq n b v rows) (hk : Kp No w w') : Both w' p tq eq n b v rows := ⟨h.q.kpN hk, h.box.kp' hk, h.ref.kpN hk⟩

/-- The reference's new rows are stored into its box. -/
theorem box_store {w : World} {p tq eq n b : Nat} {v v' : Value} {rows rows' : List (List Int)} (hq : IsQ w p tq eq n rows) (hb : Blk w b 96 [.int .i64 n, v]) (hr : IsRef w v' rows') :
    IsQ ((w.setCell ⟨b, 0, none⟩ (.int .i64 n)).setCell ⟨b, 1, none⟩ v') p tq eq n rows ∧ Blk ((w.setCell ⟨b, 0, none⟩ (.int .i64 n)).setCell ⟨b, 1, none⟩ v') b 96 [.int .i64 n, v'] ∧ IsRef ((w.setCell ⟨b, 0, none⟩ (.int .i64 n)).setCell ⟨b, 1, none⟩ v') v' rows' ∧ Kp (· = b) w ((w.setCell ⟨b, 0, none⟩ (.int .i64 n)).setCell ⟨b, 1, none⟩ v') := by
  obtain ⟨h1, h2, h3⟩ := hq.ne96 hb
  have hk : Kp (· = b) w ((w.setCell ⟨b, 0, none⟩ (.int .i64 n)).setCell ⟨b, 1, none⟩ v') := (Kp.setCell (S := (· = b)) _ _ _ fun _ => rfl).trans' (Kp.setCell _ _ _ fun _ => rfl)
  exact ⟨hq.kp hk h1 h2 h3, (hb.set 0 _).set 1 _, hr.kp hk (fun c hc _ => ⟨96, _, hc ▸ hb, by decide, by decide⟩), hk⟩

/-- The program's queue has changed. -/
theorem both_q {w w' : World} {p tq eq n b : Nat} {v : Value} {rows rows' : List (List Int)} (hq : IsQ w p tq eq n rows) (hb : Blk w b 96 [.int .i64 n, v]) (hr : IsRef w v rows') (hq' : IsQ w' p tq eq n rows') (hk : Kp (fun i => i = tq ∨ i = eq) w w') : Both w' p tq eq n b v rows' :=
  ⟨hq', hk.blk hb (by obtain ⟨_, h2, h3⟩ := hq.ne96 hb; intro e; rcases e with e | e; exact h2 e.symm; exact h3 e.symm), hr.kp hk hq.off⟩

/-- A row's first one. -/
def FirstIs (rows : List (List Int)) (k ff : Int) (ss : Bool) : Prop := (rowAt rows k = [] ∧ ff = 0 ∧ ss = false) ∨ ∃ s, rowAt rows k = ff :: s ∧ ss = true
theorem firstIs (rows : List (List Int)) (k : Int) : ∃ ff ss, FirstIs rows k ff ss := by
  cases h : rowAt rows k with
  | nil => exact ⟨0, false, .inl ⟨h, rfl, rfl⟩⟩
  | cons x s => exact ⟨x, true, .inr ⟨s, h, rfl⟩⟩
theorem firstQ_is (p tq eq n : Nat) (rows : List (List Int)) (k ff : Int) (ss : Bool) (hf : FirstIs rows k ff ss) (w : World) (h : IsQ w p tq eq n rows) :
    Calls Try.prog 77 #[.pointer (some ⟨p, 0, none⟩), .int .i64 k] w fun e w' => e = .returned (.tuple #[.int .i64 ff, .bool ss]) ∧ w' = w := by
  rcases hf with ⟨h1, rfl, rfl⟩ | ⟨s, h1, rfl⟩
  · exact firstQ_nil p tq eq n rows k h1 w h
  · exact firstQ_cons p tq eq n rows k ff s h1 w h
theorem first06_is (n : Int) (v : Value) (rows : List (List Int)) (k ff : Int) (ss : Bool) (hf : FirstIs rows k ff ss) (hl : rows.length ≤ 64) (hs : ∀ (k : Nat) (r : List Int), rows[k]? = some r → r.length ≤ 64) (w : World) (h : IsRef w v rows) :
    Calls Try.prog 78 #[.agg #[.int .i64 n, v], .int .i64 k] w fun e w' => e = .returned (.tuple #[.int .i64 ff, .bool ss]) ∧ Kp No w w' := by
  rcases hf with ⟨h1, rfl, rfl⟩ | ⟨s, h1, rfl⟩
  · exact first06_nil n v rows k hl h1 w h
  · obtain ⟨j, rfl, hj⟩ := rowAt_some (rows := rows) (k := k) (by rw [h1]; simp)
    rw [h1] at hj
    exact first06_cons n v rows j ff s hl (hs _ _ hj) h1 w h
theorem inIs (rows : List (List Int)) (x : Int) : ∃ k b, InOut rows x k b := by
  by_cases h : ∃ (j : Nat) (r : List Int), rows[j]? = some r ∧ x ∈ r
  · obtain ⟨j, r, h1, h2⟩ := h
    exact ⟨j, true, .inl ⟨rfl, j, r, rfl, h1, h2⟩⟩
  · exact ⟨0, false, .inr ⟨rfl, rfl, fun j r h1 h2 => h ⟨j, r, h1, h2⟩⟩⟩
theorem inQ_is (p tq eq n : Nat) (rows : List (List Int)) (x k : Int) (b : Bool) (hi : InOut rows x k b) (w : World) (h : IsQ w p tq eq n rows) :
    Calls Try.prog 79 #[.pointer (some ⟨p, 0, none⟩), .int .i64 x] w fun e w' => e = .returned (.tuple #[.int .i64 k, .bool b]) ∧ w' = w := by
  rcases hi with ⟨rfl, j, r, rfl, h1, h2⟩ | ⟨rfl, rfl, h1⟩
  · exact inQ_yes p tq eq n rows x j r h1 h2 w h
  · exact inQ_no p tq eq n rows x h1 w h
theorem in06_is (n : Int) (v : Value) (rows : List (List Int)) (x k : Int) (b : Bool) (hi : InOut rows x k b) (hone : ∀ (i j : Nat) (r s : List Int), rows[i]? = some r → rows[j]? = some s → x ∈ r → x ∈ s → i = j) (hl : rows.length ≤ 64) (hs : ∀ (k : Nat) (r : List Int), rows[k]? = some r → r.length ≤ 64) (w : World) (h : IsRef w v rows) :
    Calls Try.prog 80 #[.agg #[.int .i64 n, v], .int .i64 x] w fun e w' => e = .returned (.tuple #[.int .i64 k, .bool b]) ∧ Kp No w w' := by
  refine (in06 n v rows x hl hs w h).mono ?_
  rintro e w' ⟨k', b', rfl, hi', hk⟩
  refine ⟨?_, hk⟩
  rcases hi with ⟨rfl, j, r, rfl, h1, h2⟩ | ⟨rfl, rfl, h1⟩
  · rcases hi' with ⟨rfl, j', r', rfl, h3, h4⟩ | ⟨rfl, rfl, h3⟩
    · rw [hone j j' r r' h1 h3 h2 h4]
    · exact absurd h2 (h3 j r h1)
  · rcases hi' with ⟨rfl, j', r', rfl, h3, h4⟩ | ⟨rfl, rfl, h3⟩
    · exact absurd h4 (h1 j' r' h3)
    · rfl

/-- Can a thing come into a row? -/
def canPush (rows : List (List Int)) (n : Nat) (k x : Int) : Prop := (∀ (j : Nat) (r : List Int), rows[j]? = some r → x ∉ r) ∧ 0 ≤ k ∧ k < rows.length ∧ 0 ≤ x ∧ x < n
theorem notPush {rows : List (List Int)} {n : Nat} {k x : Int} (h : ¬ canPush rows n k x) : (∃ (j : Nat) (l : List Int), rows[j]? = some l ∧ x ∈ l) ∨ k < 0 ∨ (rows.length : Int) ≤ k ∨ x < 0 ∨ (n : Int) ≤ x := by
  by_cases h1 : ∃ (j : Nat) (l : List Int), rows[j]? = some l ∧ x ∈ l
  · exact .inl h1
  · refine .inr ?_
    have h2 : ¬ (0 ≤ k ∧ k < rows.length ∧ 0 ≤ x ∧ x < n) := fun h2 => h ⟨fun j r hj hx => h1 ⟨j, r, hj, hx⟩, h2⟩
    omega

set_option maxHeartbeats 8000000 in
theorem queueRuns_walk (x y : Int) (a1 : Option Addr) (n1 c1 : Nat) (l : List (Int × Int × Int)) (w : World) (hx : (Lit.int .u8 x).wf = true) (hy : (Lit.int .u8 y).wf = true) (hl : Acts w a1 n1 l) (_ : a1 = none → c1 = 0) :
    Calls Try.prog 13 #[.int .u8 x, .int .u8 y, .slice a1 n1 c1] w fun e w' => e = .returned (.bool true) ∧ Kp No w w' := by
  have HL := hid hl
  obtain rfl := hl.1
  clear hl
  have hx0 : 0 ≤ x ∧ x ≤ 255 := by simp only [Lit.wf, Bool.and_eq_true, decide_eq_true_eq] at hx; exact hx
  have hy0 : 0 ≤ y ∧ y ≤ 255 := by simp only [Lit.wf, Bool.and_eq_true, decide_eq_true_eq] at hy; exact hy
  obtain ⟨hx1, hx2⟩ := hx0
  obtain ⟨hy1, hy2⟩ := hy0
  obtain ⟨X, rfl⟩ := Int.eq_ofNat_of_zero_le hx1
  obtain ⟨Y, rfl⟩ := Int.eq_ofNat_of_zero_le hy1
  obtain ⟨N, hN⟩ : ∃ N, N = X % 65 := ⟨_, rfl⟩
  obtain ⟨M, hM⟩ : ∃ M, M = Y % 20 := ⟨_, rfl⟩
  have hN64 : N ≤ 64 := by omega
  have hM19 : M ≤ 19 := by omega
  have htm : (X : Int).tmod 65 = (N : Int) := by rw [hN]; rfl
  have htm2 : (Y : Int).tmod 20 = (M : Int) := by rw [hM]; rfl
  clear hx hy hN hM
  by_cases hlen : 200 < l.length
  · go_enter Try.func13, Try.ntmps13
    go_wp2_with fail
    refine (alive_queue _).mono ?_
    rintro e w1 ⟨rfl, hk⟩
    have HK := hid hk
    clear hk
    go_wp2_with fail
    refine (newQ_any N M hN64 (by omega) _).mono ?_
    rintro e w2 ⟨p, tq, eq, rfl, hi, _, _, _, hk⟩
    have HK2 := hid (HK.out.trans' hk)
    clear hi hk HK
    go_wp2_with fail
    go_ret
    exact ⟨rfl, HK2.out⟩
  go_enter Try.func13, Try.ntmps13
  go_wp2_with fail
  refine (alive_queue _).mono ?_
  rintro e w1 ⟨rfl, hk⟩
  have HK := hid hk
  clear hk
  go_wp2_with fail
  refine (newQ_any N M hN64 (by omega) _).mono ?_
  rintro e w2 ⟨p, tq, eq, rfl, hi, hp, ht, he, hk⟩
  have HI := hid (show IsQ w2 p tq eq N (List.replicate M []) from ⟨_, _, hi, QOK.new N M⟩)
  have HK2 := hid (HK.out.trans' hk)
  have hs1 := HK.out.size
  have htw : w.heap.size ≤ tq := by omega
  have hew : w.heap.size ≤ eq := by omega
  clear hi hk HK hp ht he hs1
  go_wp2_with (at_make; refine wpl_make rfl _ _ 94 rfl el94 .i64 .i64 M rfl rfl (by omega) (by omega) ?_; intro w3 hb3 hk3; have HB3 := hid hb3; have HI3 := hid (HI.out.kpN hk3); have HK3 := hid (HK2.out.trans' hk3); have hs3 := hb3.lt; have hs33 := hk3.size; clear hb3 hk3)
  have HBoth : Hid (Both (w3.alloc (.cells #[.int .i64 N, .slice (some ⟨w2.heap.size, 0, none⟩) M M] 96)) p tq eq N w3.heap.size (.slice (some ⟨w2.heap.size, 0, none⟩) M M) (List.replicate M [])) := by
    refine ⟨HI3.out.kpN (Kp.alloc No _ _), Blk.new w3 96 [.int .i64 N, .slice (some ⟨w2.heap.size, 0, none⟩) M M], ?_⟩
    have h := HB3.out.kp' (Kp.alloc No _ (.cells #[.int .i64 N, .slice (some ⟨w2.heap.size, 0, none⟩) M M] 96))
    rw [reps_one] at h
    refine ⟨List.replicate M (.slice none 0 0), by simp, ?_, fun k r hr => ?_⟩
    · have := Sl.of_blk h 1 M (by simp) (by unfold maxLen; omega)
      simpa using this
    · obtain ⟨hk, rfl⟩ := rep hr
      exact ⟨.slice none 0 0, by simp [hk], Sl.nil _ _ _⟩
  have HK4 := hid (HK3.out.trans' (Kp.alloc No _ (.cells #[.int .i64 N, .slice (some ⟨w2.heap.size, 0, none⟩) M M] 96)))
  have hbw : w.heap.size ≤ w3.heap.size := by have := HK3.out.size; omega
  have hMl : (List.replicate M ([] : List Int)).length = M := by simp
  have HM := hid hMl
  clear HI HK2 HB3 HI3 HK3 hs3 hs33 hMl
  go_loopw [62] (fun i wr => ∃ (k : Nat) (v : Value) (rows : List (List Int)), k ≤ l.length ∧ i = .int .i64 k ∧ rows.length = M ∧ Both wr p tq eq N w3.heap.size v rows ∧ Kp No w wr) (fun i _ => l.length - (intOf i).toNat)
  case atStart => exact ⟨0, _, _, Nat.zero_le _, rfl, HM.out, HBoth.out, HK4.out⟩
  case round =>
    clear HBoth HK4 HM
    generalize w3.heap.size = bx at *
    obtain ⟨k, v, rows, hk, rfl, hml, hb, hkp⟩ := hrel
    have HB := hid hb
    have HK := hid hkp
    have HML := hid hml
    have hqlt := hb.q.lt
    obtain ⟨hpl, htl, hel⟩ := hqlt
    have hbl := hb.box.lt
    clear hb hkp hml
    by_cases hlt : k < l.length
    · obtain ⟨b, o, rfl, hc⟩ := HL.out.2 (by omega)
      obtain ⟨hd0, hd1, hd2⟩ := hc k l[k] (by simp [hlt])
      have hc0 := HK.out.cell hd0 id
      have hc1 := HK.out.cell hd1 id
      have hc2 := HK.out.cell hd2 id
      clear hd0 hd1 hd2 hc
      generalize l[k].1 = kd at *
      generalize l[k].2.1 = K at *
      generalize l[k].2.2 = x at *
      have HA := hid (Blk.new wr 98 [.int .i64 kd, .int .i64 K, .int .i64 x])
      have HBa := hid (HB.out.kpN (Kp.alloc No wr (.cells [Value.int .i64 kd, .int .i64 K, .int .i64 x].toArray 98)))
      have HKa := hid (HK.out.trans' (Kp.alloc No wr (.cells [Value.int .i64 kd, .int .i64 K, .int .i64 x].toArray 98)))
      have hs := HK.out.size
      go_upto_block 2 with (fail)
      go_cut [14, 15, 16, 17] (fun xx ok yy is wx => ∃ (b : Bool) (z : Int) (v' : Value) (rows' : List (List Int)), xx = .int .i64 z ∧ yy = .int .i64 z ∧ ok = .bool b ∧ is = .bool b ∧ rows'.length = M ∧ Both wx p tq eq N bx v' rows' ∧ Kp No w wx ∧ Blk wx wr.heap.size 98 [.int .i64 kd, .int .i64 K, .int .i64 x] ∧ wr.heap.size ≤ wx.heap.size)
      case first =>
        have hml : rows.length ≤ 64 := by have := HML.out; omega
        have hrl : ∀ (k : Nat) (r : List Int), rows[k]? = some r → r.length ≤ 64 := fun k r hr => by have := HB.out.q.many hr; omega
        have HRL := hid hrl
        clear hrl
        have bc0 := HBa.out.box.cell (i := 0) rfl
        have bc1 := HBa.out.box.cell (i := 1) rfl
        have aa1 := HA.out.cell (i := 1) rfl
        have aa2 := HA.out.cell (i := 2) rfl
        have aa0 := HA.out.cell (i := 0) rfl
        obtain ⟨so, cap, vs, hvf, _, _⟩ := HB.out.ref.form
        subst hvf
        by_cases h0 : kd = 0
        · have k0 : (kd == 0) = true := by simpa using h0
          clear h0
          by_cases hcan : canPush rows N K x
          · have HC := hid hcan
            obtain ⟨_, hk0, hk1, hx0, hx1⟩ := hcan
            obtain ⟨KN, rfl⟩ := Int.eq_ofNat_of_zero_le hk0
            have hKr := List.getElem?_eq_getElem (show KN < rows.length by omega)
            generalize rows[KN] = r at hKr
            have HKR := hid hKr
            clear hKr
            go_wp2_with fail
            refine (push06_ok N _ rows KN r x hml HRL.out HKR.out ⟨hx0, hx1⟩ HC.out.1 _ HBa.out.ref).mono ?_
            rintro e w4 ⟨v4, rfl, hi4, hk4⟩
            have HS := hid (box_store (HBa.out.q.kpN hk4) (HBa.out.box.kp' hk4) hi4)
            have HBOX := hid (HBa.out.box.kp' hk4)
            have HA4 := hid (HA.out.kp' hk4)
            have HK4 := hid (HKa.out.trans' hk4)
            have hs4 := hk4.size
            simp only [World.size_alloc] at hs4
            have y0 := HBOX.out.cell (i := 0) rfl
            have y1 := HBOX.out.cell (i := 1) rfl
            have yf0 := HBOX.out.frozen 0
            have yf1 := HBOX.out.frozen 1
            have ac1 := HA4.out.cell (i := 1) rfl
            have ac2 := HA4.out.cell (i := 2) rfl
            have hbne : bx ≠ wr.heap.size := by omega
            have hbne2 := hbne.symm
            obtain ⟨s4, c4, vs4, rfl, _, _⟩ := hi4.form
            try simp only [List.length_set] at HS
            clear hi4 hk4
            go_wp2_with fail
            refine (pushQ_ok p tq eq N rows KN r x HKR.out hx0 hx1 HC.out.1 _ HS.out.1).mono ?_
            rintro e w5 ⟨rfl, hi5, hk5⟩
            have HB5 := hid (both_q HS.out.1 HS.out.2.1 HS.out.2.2.1 hi5 hk5)
            have HA5 := hid (hk5.blk (HS.out.2.2.2.blk HA4.out (fun e => hbne e.symm)) (fun e => by rcases e with e | e <;> omega))
            have HK5 := hid ((HK4.out.trans HS.out.2.2.2 (fun i hi he => by omega)).trans hk5 (fun i hi he => by rcases he with he | he <;> omega))
            have hs5 := hk5.size
            have hs6 := HS.out.2.2.2.size
            clear hi5 hk5 y0 y1 yf0 yf1 ac1 ac2
            go_wp2_with fail
            go_meet
            exact ⟨true, 0, _, _, rfl, rfl, rfl, rfl, by simp only [List.length_set]; exact HML.out, HB5.out, HK5.out, HA5.out, by omega⟩

          · have HN := hid (notPush hcan)
            clear hcan
            go_wp2_with fail
            refine (push06_no N _ rows K x hml HRL.out HN.out _ HBa.out.ref).mono ?_
            rintro e w4 ⟨v4, rfl, hi4, hk4⟩
            have HS := hid (box_store (HBa.out.q.kpN hk4) (HBa.out.box.kp' hk4) hi4)
            have HBOX := hid (HBa.out.box.kp' hk4)
            have HA4 := hid (HA.out.kp' hk4)
            have HK4 := hid (HKa.out.trans' hk4)
            have hs4 := hk4.size
            simp only [World.size_alloc] at hs4
            have y0 := HBOX.out.cell (i := 0) rfl
            have y1 := HBOX.out.cell (i := 1) rfl
            have yf0 := HBOX.out.frozen 0
            have yf1 := HBOX.out.frozen 1
            have ac1 := HA4.out.cell (i := 1) rfl
            have ac2 := HA4.out.cell (i := 2) rfl
            have hbne : bx ≠ wr.heap.size := by omega
            have hbne2 := hbne.symm
            obtain ⟨s4, c4, vs4, rfl, _, _⟩ := hi4.form
            try simp only [List.length_set] at HS
            clear hi4 hk4
            go_wp2_with fail
            refine (pushQ_no p tq eq N rows K x HN.out _ HS.out.1).mono ?_
            rintro e w' ⟨rfl, hw'⟩
            rw [hw']; clear hw' w'
            have HB5 := hid (⟨HS.out.1, HS.out.2.1, HS.out.2.2.1⟩ : Both _ p tq eq N bx _ rows)
            have HA5 := hid (HS.out.2.2.2.blk HA4.out (fun e => hbne e.symm))
            have HK5 := hid (HK4.out.trans HS.out.2.2.2 (fun i hi he => by omega))
            have hs6 := HS.out.2.2.2.size
            clear y0 y1 yf0 yf1 ac1 ac2
            go_wp2_with fail
            go_meet
            exact ⟨false, 0, _, _, rfl, rfl, rfl, rfl, HML.out, HB5.out, HK5.out, HA5.out, by omega⟩

        have k0 : (kd == 0) = false := by simpa using h0
        clear h0
        by_cases h1 : kd = 1
        · have k1 : (kd == 1) = true := by simpa using h1
          clear h1
          cases hrow : rowAt rows K with
          | nil =>
            have HN := hid hrow
            clear hrow
            go_wp2_with fail
            refine (pop06_nil N _ rows K hml HN.out _ HBa.out.ref).mono ?_
            rintro e w4 ⟨v4, rfl, hi4, hk4⟩
            have HS := hid (box_store (HBa.out.q.kpN hk4) (HBa.out.box.kp' hk4) hi4)
            have HBOX := hid (HBa.out.box.kp' hk4)
            have HA4 := hid (HA.out.kp' hk4)
            have HK4 := hid (HKa.out.trans' hk4)
            have hs4 := hk4.size
            simp only [World.size_alloc] at hs4
            have y0 := HBOX.out.cell (i := 0) rfl
            have y1 := HBOX.out.cell (i := 1) rfl
            have yf0 := HBOX.out.frozen 0
            have yf1 := HBOX.out.frozen 1
            have ac1 := HA4.out.cell (i := 1) rfl
            have ac2 := HA4.out.cell (i := 2) rfl
            have hbne : bx ≠ wr.heap.size := by omega
            have hbne2 := hbne.symm
            obtain ⟨s4, c4, vs4, rfl, _, _⟩ := hi4.form
            try simp only [List.length_set] at HS
            clear hi4 hk4
            go_wp2_with fail
            refine (popQ_nil p tq eq N rows K HN.out _ HS.out.1).mono ?_
            rintro e w' ⟨rfl, hw'⟩
            rw [hw']; clear hw' w'
            have HB5 := hid (⟨HS.out.1, HS.out.2.1, HS.out.2.2.1⟩ : Both _ p tq eq N bx _ rows)
            have HA5 := hid (HS.out.2.2.2.blk HA4.out (fun e => hbne e.symm))
            have HK5 := hid (HK4.out.trans HS.out.2.2.2 (fun i hi he => by omega))
            have hs6 := HS.out.2.2.2.size
            clear y0 y1 yf0 yf1 ac1 ac2
            go_wp2_with fail
            go_meet
            exact ⟨false, 0, _, _, rfl, rfl, rfl, rfl, HML.out, HB5.out, HK5.out, HA5.out, by omega⟩

          | cons z s =>
            obtain ⟨KN, rfl, hKr⟩ := rowAt_some (rows := rows) (k := K) (by rw [hrow]; simp)
            rw [hrow] at hKr
            have hnd := HB.out.q.nodup hKr
            have hwo : without (z :: s) z = s := by
              have := without_mid (q := []) (s := s) (x := z) (by simp) (List.nodup_cons.1 hnd).1
              simpa using this
            have HWO := hid hwo
            have HKR := hid hKr
            have HON := hid (show ∀ (j : Nat) (r : List Int), rows[j]? = some r → z ∈ r → j = KN from fun j r hj hz => HB.out.q.sepQ hj HKR.out hz (by simp))
            clear hKr hrow hnd hwo
            go_wp2_with fail
            refine (pop06_cons N _ rows KN z s hml HRL.out HKR.out HON.out _ HBa.out.ref).mono ?_
            rintro e w4 ⟨v4, rfl, hi4, hk4⟩; rw [HWO.out] at hi4
            have HS := hid (box_store (HBa.out.q.kpN hk4) (HBa.out.box.kp' hk4) hi4)
            have HBOX := hid (HBa.out.box.kp' hk4)
            have HA4 := hid (HA.out.kp' hk4)
            have HK4 := hid (HKa.out.trans' hk4)
            have hs4 := hk4.size
            simp only [World.size_alloc] at hs4
            have y0 := HBOX.out.cell (i := 0) rfl
            have y1 := HBOX.out.cell (i := 1) rfl
            have yf0 := HBOX.out.frozen 0
            have yf1 := HBOX.out.frozen 1
            have ac1 := HA4.out.cell (i := 1) rfl
            have ac2 := HA4.out.cell (i := 2) rfl
            have hbne : bx ≠ wr.heap.size := by omega
            have hbne2 := hbne.symm
            obtain ⟨s4, c4, vs4, rfl, _, _⟩ := hi4.form
            try simp only [List.length_set] at HS
            clear hi4 hk4
            go_wp2_with fail
            refine (popQ_cons p tq eq N rows KN z s HKR.out _ HS.out.1).mono ?_
            rintro e w5 ⟨rfl, hi5, hk5⟩
            have HB5 := hid (both_q HS.out.1 HS.out.2.1 HS.out.2.2.1 hi5 hk5)
            have HA5 := hid (hk5.blk (HS.out.2.2.2.blk HA4.out (fun e => hbne e.symm)) (fun e => by rcases e with e | e <;> omega))
            have HK5 := hid ((HK4.out.trans HS.out.2.2.2 (fun i hi he => by omega)).trans hk5 (fun i hi he => by rcases he with he | he <;> omega))
            have hs5 := hk5.size
            have hs6 := HS.out.2.2.2.size
            clear hi5 hk5 y0 y1 yf0 yf1 ac1 ac2
            go_wp2_with fail
            go_meet
            exact ⟨true, z, _, _, rfl, rfl, rfl, rfl, by simp only [List.length_set]; exact HML.out, HB5.out, HK5.out, HA5.out, by omega⟩

        have k1 : (kd == 1) = false := by simpa using h1
        clear h1
        by_cases h2 : kd = 2
        · have k2 : (kd == 2) = true := by simpa using h2
          clear h2
          by_cases hin : ∃ (j : Nat) (r : List Int), rows[j]? = some r ∧ x ∈ r
          · obtain ⟨KN, r, hKr, hxr⟩ := hin
            obtain ⟨q, s, hqs⟩ := List.append_of_mem hxr
            subst hqs
            have hnd := HB.out.q.nodup hKr
            have hwo : without (q ++ x :: s) x = q ++ s := without_mid (fun h => (List.nodup_append.1 hnd).2.2 x h x (by simp) rfl) (List.nodup_cons.1 (List.nodup_append.1 hnd).2.1).1
            have HWO := hid hwo
            have HKR := hid hKr
            have HXR := hid hxr
            have HON := hid (show ∀ (j : Nat) (r : List Int), rows[j]? = some r → x ∈ r → j = KN from fun j r hj hz => HB.out.q.sepQ hj HKR.out hz HXR.out)
            clear hKr hxr hnd hwo
            go_wp2_with fail
            refine (drop06_ok N _ rows KN (q ++ x :: s) x hml HRL.out HKR.out HXR.out HON.out _ HBa.out.ref).mono ?_
            rintro e w4 ⟨v4, rfl, hi4, hk4⟩; rw [HWO.out] at hi4
            have HS := hid (box_store (HBa.out.q.kpN hk4) (HBa.out.box.kp' hk4) hi4)
            have HBOX := hid (HBa.out.box.kp' hk4)
            have HA4 := hid (HA.out.kp' hk4)
            have HK4 := hid (HKa.out.trans' hk4)
            have hs4 := hk4.size
            simp only [World.size_alloc] at hs4
            have y0 := HBOX.out.cell (i := 0) rfl
            have y1 := HBOX.out.cell (i := 1) rfl
            have yf0 := HBOX.out.frozen 0
            have yf1 := HBOX.out.frozen 1
            have ac1 := HA4.out.cell (i := 1) rfl
            have ac2 := HA4.out.cell (i := 2) rfl
            have hbne : bx ≠ wr.heap.size := by omega
            have hbne2 := hbne.symm
            obtain ⟨s4, c4, vs4, rfl, _, _⟩ := hi4.form
            try simp only [List.length_set] at HS
            clear hi4 hk4
            go_wp2_with fail
            refine (dropQ_ok p tq eq N rows KN q x s HKR.out _ HS.out.1).mono ?_
            rintro e w5 ⟨rfl, hi5, hk5⟩
            have HB5 := hid (both_q HS.out.1 HS.out.2.1 HS.out.2.2.1 hi5 hk5)
            have HA5 := hid (hk5.blk (HS.out.2.2.2.blk HA4.out (fun e => hbne e.symm)) (fun e => by rcases e with e | e <;> omega))
            have HK5 := hid ((HK4.out.trans HS.out.2.2.2 (fun i hi he => by omega)).trans hk5 (fun i hi he => by rcases he with he | he <;> omega))
            have hs5 := hk5.size
            have hs6 := HS.out.2.2.2.size
            clear hi5 hk5 y0 y1 yf0 yf1 ac1 ac2
            go_wp2_with fail
            go_meet
            exact ⟨true, 0, _, _, rfl, rfl, rfl, rfl, by simp only [List.length_set]; exact HML.out, HB5.out, HK5.out, HA5.out, by omega⟩

          · have HN := hid (show ∀ (j : Nat) (r : List Int), rows[j]? = some r → x ∉ r from fun j r h1 h2 => hin ⟨j, r, h1, h2⟩)
            clear hin
            go_wp2_with fail
            refine (drop06_no N _ rows x hml HRL.out HN.out _ HBa.out.ref).mono ?_
            rintro e w4 ⟨v4, rfl, hi4, hk4⟩
            have HS := hid (box_store (HBa.out.q.kpN hk4) (HBa.out.box.kp' hk4) hi4)
            have HBOX := hid (HBa.out.box.kp' hk4)
            have HA4 := hid (HA.out.kp' hk4)
            have HK4 := hid (HKa.out.trans' hk4)
            have hs4 := hk4.size
            simp only [World.size_alloc] at hs4
            have y0 := HBOX.out.cell (i := 0) rfl
            have y1 := HBOX.out.cell (i := 1) rfl
            have yf0 := HBOX.out.frozen 0
            have yf1 := HBOX.out.frozen 1
            have ac1 := HA4.out.cell (i := 1) rfl
            have ac2 := HA4.out.cell (i := 2) rfl
            have hbne : bx ≠ wr.heap.size := by omega
            have hbne2 := hbne.symm
            obtain ⟨s4, c4, vs4, rfl, _, _⟩ := hi4.form
            try simp only [List.length_set] at HS
            clear hi4 hk4
            go_wp2_with fail
            refine (dropQ_no p tq eq N rows x HN.out _ HS.out.1).mono ?_
            rintro e w' ⟨rfl, hw'⟩
            rw [hw']; clear hw' w'
            have HB5 := hid (⟨HS.out.1, HS.out.2.1, HS.out.2.2.1⟩ : Both _ p tq eq N bx _ rows)
            have HA5 := hid (HS.out.2.2.2.blk HA4.out (fun e => hbne e.symm))
            have HK5 := hid (HK4.out.trans HS.out.2.2.2 (fun i hi he => by omega))
            have hs6 := HS.out.2.2.2.size
            clear y0 y1 yf0 yf1 ac1 ac2
            go_wp2_with fail
            go_meet
            exact ⟨false, 0, _, _, rfl, rfl, rfl, rfl, HML.out, HB5.out, HK5.out, HA5.out, by omega⟩

        have k2 : (kd == 2) = false := by simpa using h2
        clear h2
        go_wp2_with fail
        go_meet
        exact ⟨true, 0, _, _, rfl, rfl, rfl, rfl, HML.out, HBa.out, HKa.out, HA.out, by simp⟩
      case rest =>
        obtain ⟨bb, z, v', rows', rfl, rfl, rfl, rfl, hml', hb', hk', ha', hs'⟩ := hcut
        clear HB HK HML HA HBa HKa hc0 hc1 hc2 hbl hpl htl hel hs
        have HB := hid hb'
        have HK := hid hk'
        have HML := hid hml'
        have hml : rows'.length ≤ 64 := by omega
        have hrl : ∀ (k : Nat) (r : List Int), rows'[k]? = some r → r.length ≤ 64 := fun k r hr => by have := hb'.q.many hr; omega
        have HRL := hid hrl
        have aa1 := ha'.cell (i := 1) rfl
        have aa2 := ha'.cell (i := 2) rfl
        have bc0 := hb'.box.cell (i := 0) rfl
        have bc1 := hb'.box.cell (i := 1) rfl
        have hzz : (z != z) = false := by simp
        have hbb : (bb != bb) = false := by simp
        have HA := hid ha'
        obtain ⟨so, cap, vs, hvf, _, _⟩ := hb'.ref.form
        subst hvf
        clear hb' hk' hml' hrl ha'
        clear v rows
        obtain ⟨ff, ss, hf⟩ := firstIs rows' K
        obtain ⟨fi, si, hin⟩ := inIs rows' x
        have HF := hid hf
        have HIN := hid hin
        have HON := hid (show ∀ (i j : Nat) (r s : List Int), rows'[i]? = some r → rows'[j]? = some s → x ∈ r → x ∈ s → i = j from fun i j r s h1 h2 h3 h4 => HB.out.q.sepQ h1 h2 h3 h4)
        have hff : (ff != ff) = false := by simp
        have hss : (ss != ss) = false := by simp
        have hfi : (fi != fi) = false := by simp
        have hsi : (si != si) = false := by simp
        clear hf hin
        go_wp2_with fail
        refine (firstQ_is p tq eq N rows' K ff ss HF.out _ HB.out.q).mono ?_
        rintro e w' ⟨rfl, hw'⟩
        rw [hw']; clear hw' w'
        go_wp2_with fail
        refine (first06_is N _ rows' K ff ss HF.out hml HRL.out _ HB.out.ref).mono ?_
        rintro e w4 ⟨rfl, hk4⟩
        have HB4 := hid (HB.out.kpN hk4)
        have HA4 := hid (HA.out.kp' hk4)
        have HK4 := hid (HK.out.trans' hk4)
        clear hk4 aa1 aa2 bc0 bc1
        have aa1 := HA4.out.cell (i := 1) rfl
        have aa2 := HA4.out.cell (i := 2) rfl
        have bc0 := HB4.out.box.cell (i := 0) rfl
        have bc1 := HB4.out.box.cell (i := 1) rfl
        go_wp2_with fail
        refine (inQ_is p tq eq N rows' x fi si HIN.out _ HB4.out.q).mono ?_
        rintro e w' ⟨rfl, hw'⟩
        rw [hw']; clear hw' w'
        go_wp2_with fail
        refine (in06_is N _ rows' x fi si HIN.out HON.out hml HRL.out _ HB4.out.ref).mono ?_
        rintro e w5 ⟨rfl, hk5⟩
        have HB5 := hid (HB4.out.kpN hk5)
        have HK5 := hid (HK4.out.trans' hk5)
        clear hk5 aa1 aa2 bc0 bc1
        have bc0 := HB5.out.box.cell (i := 0) rfl
        have bc1 := HB5.out.box.cell (i := 1) rfl
        clear HB HK HA HB4 HK4 HA4
        go_wp2_with fail
        go_loopw [174] (fun i wx => ∃ (j : Nat), j ≤ rows'.length ∧ i = .int .i64 j ∧ Both wx p tq eq N bx (.slice so rows'.length cap) rows' ∧ Kp No w wx) (fun i _ => rows'.length - (intOf i).toNat)
        case atStart => exact ⟨0, Nat.zero_le _, rfl, HB5.out, HK5.out⟩
        case round =>
          clear HB5 HK5 bc0 bc1
          obtain ⟨j, hj, rfl, hb6, hk6⟩ := hrel
          have HB := hid hb6
          have HK := hid hk6
          clear hb6 hk6
          by_cases hlt2 : j < rows'.length
          · have hr := List.getElem?_eq_getElem hlt2
            generalize rows'[j] = r at hr
            have hr64 := HRL.out j r hr
            have hrow := rowAt_nat hr
            obtain ⟨g, u, hso, hc, hu⟩ := HB.out.ref.cell hr
            subst hso
            obtain ⟨uo, uc, rfl, _, _⟩ := hu.form
            have HU := hid hu
            have HROW := hid hrow
            have hrr : ((r.length : Int) != (r.length : Int)) = false := by simp
            clear hr hrow hu
            go_wp2_with fail
            refine (listQ_row p tq eq N rows' j hN64 _ HB.out.q).mono ?_
            rintro e w7 ⟨v7, rfl, hv7, _, hk7⟩
            rw [HROW.out] at hv7
            have HV7 := hid hv7
            have HK7 := hid hk7
            clear hv7 hk7 hc
            go_wp2_with fail
            refine (same_to v7 _ r _ HV7.out (HU.out.kpN HK7.out) (by omega)).mono ?_
            rintro e w8 ⟨rfl, m8, hw8⟩
            rw [hw8]; clear hw8 w8
            have HB8 := hid (HB.out.kpN (HK7.out.trans' (Kp.drewN No _ m8)))
            have HK8 := hid (HK.out.trans' (HK7.out.trans' (Kp.drewN No _ m8)))
            clear HV7
            go_wp2_with fail
            refine (lenQ_row p tq eq N rows' j _ HB8.out.q).mono ?_
            rintro e w' ⟨rfl, hw'⟩
            rw [hw', HROW.out]; clear hw' w'
            go_wp2_with fail
            go_roundw
            case rel => exact ⟨j + 1, by omega, by go_num, HB8.out, HK8.out⟩
            case measure => simp [intOf]; omega
          · go_wp2_with fail
            go_roundw
            case rel => exact ⟨k + 1, _, _, by omega, by go_num, HML.out, HB.out, HK.out⟩
            case measure => simp [intOf]; omega
    · have hrm : rowAt rows (-1) = [] := rfl
      have hrm2 : rowAt rows (M : Int) = [] := by
        unfold rowAt
        have := HML.out
        rw [if_pos (by omega), List.getElem?_eq_none (by omega)]
        rfl
      have HR1 := hid hrm
      have HR2 := hid hrm2
      clear hrm hrm2
      go_wp2_with fail
      refine (listQ_row p tq eq N rows (-1) hN64 _ HB.out.q).mono ?_
      rintro e w7 ⟨v7, rfl, hv7, _, hk7⟩
      rw [HR1.out] at hv7
      obtain ⟨s7, c7, rfl, _, _⟩ := hv7.form
      have HB7 := hid (HB.out.kpN hk7)
      have HK7 := hid (HK.out.trans' hk7)
      clear hv7 hk7
      go_wp2_with fail
      refine (lenQ_row p tq eq N rows M _ HB7.out.q).mono ?_
      rintro e w' ⟨rfl, hw'⟩
      rw [hw', HR2.out]; clear hw' w'
      go_wp2_with fail
      go_ret
      exact ⟨rfl, HK7.out⟩
end Go.Proofs.Ytijpdeanbkodkaa
