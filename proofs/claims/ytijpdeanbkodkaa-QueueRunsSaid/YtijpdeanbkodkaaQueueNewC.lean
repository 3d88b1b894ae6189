/-
  The contract of queue.New.
-/
import Derived.Test.YtijpdeanbkodkaaQueue
namespace Go.Proofs.Ytijpdeanbkodkaa
open Go.RowKit
set_option maxRecDepth 100000

/-- 'make([]T, n)', as one step of a region that draws its order. -/
theorem step_make {P : Program} {ops : Array Oper} {o : Oper} {act : Act} {w : World} {K : Act → World → Prop} {Q : Exit → Act → World → Prop} {Ex : Prop}
    (hg : o.guard = none) (l c : Operand) (t : TypeId) (hop : o.op = Op.makeSlice t l c) {e : TypeId} {zs : List Value} {bytes : Nat} (E : Elem P t e zs bytes)
    (kl kc : IntKind) (n : Nat) (hl : act.eval l = .int kl n) (hc : act.eval c = .int kc n) (b2 : bytes * n ≤ 281474976710656) (b3 : n ≤ 281474976710656)
    (hK : ∀ w', Blk w' w.heap.size e (reps n zs) → Kp No w w' → K (act.put o.dst (.slice (some ⟨w.heap.size, 0, none⟩) n n)) w') :
    if Region.wanted o (yielded ops act.tmps) = true then Oper.wp P o act w K Q else Ex := by
  have hw : Region.wanted o (yielded ops act.tmps) = true := by simp [Region.wanted, hg]
  rw [if_pos hw]
  obtain ⟨i, z, h2, h3, h4, h6, h5⟩ := E.info
  have hb : ((bytes * n : Nat) : Int) ≤ 281474976710656 := by omega
  rw [Int.natCast_mul, ← h6] at hb
  have hr := run_make (P := P) w t e i z E.sl h2 h3 kl kc (n : Int) (n : Int) (by omega) (by omega) hb (by omega)
  unfold Oper.wp
  simp [execOp, hop, hl, hc, hr, Result.andThen, h4, h5, madeCells_reps]
  exact hK _ (Blk.new _ _ _) (Kp.alloc _ _ _)

theorem rep_set {α : Type} (n k : Nat) (a b : α) (hk : k < n) : (List.replicate k a ++ List.replicate (n - k) b).set k a = List.replicate (k + 1) a ++ List.replicate (n - (k + 1)) b := by
  rw [show n - k = (n - (k + 1)) + 1 by omega, List.replicate_succ, List.set_append_right _ _ (by simp)]
  simp [List.replicate_succ']
theorem rep_at {α : Type} (n k : Nat) (a b : α) (hk : k < n) : (List.replicate k a ++ List.replicate (n - k) b)[k]? = some b := by
  rw [List.getElem?_append_right (by simp), List.getElem?_replicate, if_pos (by simp; omega)]

theorem isQR_made {w : World} {tq eq n m : Nat} (hn : n ≤ 64) (hm : m ≤ 64) (h1 : Blk w tq 127 (reps n [.int .i64 0, .int .i64 0, .int .i64 0])) (h2 : Blk w eq 129 (reps m [.int .i64 0, .int .i64 0, .int .i64 0])) :
    IsQR (w.alloc (.cells #[Value.slice (some ⟨tq, 0, none⟩) n n, .slice (some ⟨eq, 0, none⟩) m m] 125)) w.heap.size tq eq (List.replicate n (0, 0, 0)) (List.replicate m (0, 0, 0)) := by
  have e : ∀ k, reps k [.int .i64 0, .int .i64 0, .int .i64 0] = tris (List.replicate k (0, 0, 0)) := fun k => recs_reps (f := triC) (0, 0, 0) k
  rw [e] at h1 h2
  refine ⟨?_, h1.kp' (Kp.alloc No _ _), h2.kp' (Kp.alloc No _ _), by simpa using hn, by simpa using hm⟩
  have := Blk.new w 125 [Value.slice (some ⟨tq, 0, none⟩) n n, .slice (some ⟨eq, 0, none⟩) m m]
  simpa using this

set_option maxHeartbeats 400000 in
theorem newQ_no (n m : Int) (h : n < 0 ∨ 64 < n ∨ m < 0 ∨ 64 < m) (w : World) :
    Calls Try.prog 67 #[.int .i64 n, .int .i64 m] w fun e w' => e = .returned (.tuple #[.pointer none, .int .i64 1]) ∧ w' = w := by
  rcases (show n < 0 ∨ (0 ≤ n ∧ 64 < n) ∨ (0 ≤ n ∧ n ≤ 64 ∧ m < 0) ∨ (0 ≤ n ∧ n ≤ 64 ∧ 0 ≤ m ∧ 64 < m) by omega) with h1 | ⟨h1, h2⟩ | ⟨h1, h2, h3⟩ | ⟨h1, h2, h3, h4⟩
  all_goals
    clear h
    go_enter Try.func67, Try.ntmps67
    go_wp2
    go_ret2
    exact ⟨rfl, rfl⟩

set_option maxHeartbeats 2000000 in
theorem newQ_any (n m : Nat) (hn : n ≤ 64) (hm : m ≤ 64) (w : World) :
    Calls Try.prog 67 #[.int .i64 n, .int .i64 m] w fun e w' => ∃ p tq eq, e = .returned (.tuple #[.pointer (some ⟨p, 0, none⟩), .int .i64 0]) ∧ IsQR w' p tq eq (List.replicate n (0, 0, -1)) (List.replicate m (-1, -1, 0)) ∧ w.heap.size ≤ p ∧ w.heap.size ≤ tq ∧ w.heap.size ≤ eq ∧ Kp No w w' := by
  go_enter Try.func67, Try.ntmps67
  go_upto_region 3 with (fail)
  go_cut [6] (fun v wx => ∃ p tq eq, v = .pointer (some ⟨p, 0, none⟩) ∧ IsQR wx p tq eq (List.replicate n (0, 0, 0)) (List.replicate m (0, 0, 0)) ∧ w.heap.size ≤ p ∧ w.heap.size ≤ tq ∧ w.heap.size ≤ eq ∧ Kp No w wx)
  case first =>
    refine wp_region_any (by kernel_rfl) ?_
    refine wpAny_take (i := 0) (v := .int .i64 n) rfl (by kernel_rfl) (by kernel_rfl) (by kernel_rfl) (fun _ _ _ h => h) (Or.inl ⟨by rfl, by intro w; go_simp⟩) ?_
    refine wpAny_take (i := 2) (v := .int .i64 m) rfl (by kernel_rfl) (by kernel_rfl) (by kernel_rfl) (fun _ _ _ h => h) (Or.inl ⟨by rfl, by intro w; go_simp⟩) ?_
    refine wpAny_ready (rs := [1, 3]) (by kernel_rfl) (by simp) ?_
    refine AllReady.cons rfl (fun K hK => ?_) (AllReady.cons rfl (fun K hK => ?_) AllReady.nil)
    · refine step_make (by rfl) (.tmp 23) (.tmp 23) 122 (by rfl) el122 .i64 .i64 n (by rfl) (by rfl) (by omega) (by omega) ?_
      intro wa hb hk
      have HA := hid hb
      have HAK := hid hk
      clear hb hk
      refine hK _ _ ?_
      clear hK K
      refine wpAny_ready (rs := [3]) (by kernel_rfl) (by simp) ?_
      refine AllReady.cons rfl (fun K hK => ?_) AllReady.nil
      refine step_make (by rfl) (.tmp 25) (.tmp 25) 123 (by rfl) el123 .i64 .i64 m (by rfl) (by rfl) (by omega) (by omega) ?_
      intro wb hb hk
      have HB := hid hb
      have HBK := hid hk
      clear hb hk
      refine hK _ _ ?_
      clear hK K
      refine wpAny_ready (rs := [4]) (by kernel_rfl) (by simp) ?_
      refine AllReady.cons rfl (fun K hK => ?_) AllReady.nil
      go_simp
      refine hK _ _ ?_
      clear hK K
      refine wpAny_ready (rs := [5]) (by kernel_rfl) (by simp) ?_
      refine AllReady.cons rfl (fun K hK => ?_) AllReady.nil
      go_simp
      refine hK _ _ ?_
      clear hK K
      refine wpAny_ready (rs := [6]) (by kernel_rfl) (by simp) ?_
      refine AllReady.cons rfl (fun K hK => ?_) AllReady.nil
      go_simp
      refine hK _ _ ?_
      clear hK K
      refine wpAny_done (by kernel_rfl) ?_ _
      go_wp2_with fail
      go_meet
      have hsa := HAK.out.size
      have hsb := HBK.out.size
      simp at hsa
      exact ⟨wb.heap.size, w.heap.size, wa.heap.size, by simp, by simpa using isQR_made hn hm (HA.out.kp' HBK.out) HB.out, by omega, by omega, by omega, by simpa using (((Kp.drew No w).trans' HAK.out).trans' HBK.out).trans' (Kp.alloc No _ _)⟩
    · refine step_make (by rfl) (.tmp 25) (.tmp 25) 123 (by rfl) el123 .i64 .i64 m (by rfl) (by rfl) (by omega) (by omega) ?_
      intro wa hb hk
      have HA := hid hb
      have HAK := hid hk
      clear hb hk
      refine hK _ _ ?_
      clear hK K
      refine wpAny_ready (rs := [1]) (by kernel_rfl) (by simp) ?_
      refine AllReady.cons rfl (fun K hK => ?_) AllReady.nil
      refine step_make (by rfl) (.tmp 23) (.tmp 23) 122 (by rfl) el122 .i64 .i64 n (by rfl) (by rfl) (by omega) (by omega) ?_
      intro wb hb hk
      have HB := hid hb
      have HBK := hid hk
      clear hb hk
      refine hK _ _ ?_
      clear hK K
      refine wpAny_ready (rs := [4]) (by kernel_rfl) (by simp) ?_
      refine AllReady.cons rfl (fun K hK => ?_) AllReady.nil
      go_simp
      refine hK _ _ ?_
      clear hK K
      refine wpAny_ready (rs := [5]) (by kernel_rfl) (by simp) ?_
      refine AllReady.cons rfl (fun K hK => ?_) AllReady.nil
      go_simp
      refine hK _ _ ?_
      clear hK K
      refine wpAny_ready (rs := [6]) (by kernel_rfl) (by simp) ?_
      refine AllReady.cons rfl (fun K hK => ?_) AllReady.nil
      go_simp
      refine hK _ _ ?_
      clear hK K
      refine wpAny_done (by kernel_rfl) ?_ _
      go_wp2_with fail
      go_meet
      have hsa := HAK.out.size
      have hsb := HBK.out.size
      simp at hsa
      exact ⟨wb.heap.size, wa.heap.size, w.heap.size, by simp, by simpa using isQR_made hn hm HB.out (HA.out.kp' HBK.out), by omega, by omega, by omega, by simpa using (((Kp.drew No w).trans' HAK.out).trans' HBK.out).trans' (Kp.alloc No _ _)⟩
  case rest =>
    obtain ⟨p, tq, eq, rfl, hi, hp, ht, he, hk⟩ := hcut
    have hi0 : IsQR wc p tq eq (List.replicate 0 (0, 0, -1) ++ List.replicate (n - 0) (0, 0, 0)) (List.replicate m (0, 0, 0)) := by simpa using hi
    have HI := hid hi0
    have HK := hid hk
    have c0 : wc.cell? ⟨p, 0, none⟩ = some (.slice (some ⟨tq, 0, none⟩) n n) := by simpa using hi.head.cell (i := 0) rfl
    clear hi hi0 hk
    go_wp2_with fail
    clear c0
    go_loopw [7, 34] (fun _ i wr => ∃ (k : Nat), k ≤ n ∧ i = .int .i64 k ∧ IsQR wr p tq eq (List.replicate k (0, 0, -1) ++ List.replicate (n - k) (0, 0, 0)) (List.replicate m (0, 0, 0)) ∧ Kp No w wr) (fun _ i _ => n - (intOf i).toNat)
    case atStart => exact ⟨0, Nat.zero_le _, rfl, HI.out, HK.out⟩
    case round =>
      clear HI HK
      obtain ⟨k, hk, rfl, hi, hkp⟩ := hrel
      have HI := hid hi
      have HK := hid hkp
      by_cases hlt : k < n
      · have c0 : wr.cell? ⟨p, 0, none⟩ = some (.slice (some ⟨tq, 0, none⟩) n n) := by have := hi.head.cell (i := 0) rfl; simp at this; rwa [show k + (n - k) = n by omega] at this
        have hx := rep_at n k ((0 : Int), (0 : Int), (-1 : Int)) (0, 0, 0) hlt
        obtain ⟨_, _, t2⟩ := hi.tieC hx
        have f2 := hi.tie.frozen (k * 3 + 2)
        have hs := hid (hi.tie2 hx (-1))
        rw [rep_set n k _ _ hlt] at hs
        have HS := hs
        clear hi hkp hx hs
        go_wp2_with fail
        go_roundw
        case rel => exact ⟨k + 1, by omega, by go_num, HS.out, HK.out.trans (Kp.setCell (S := (· = tq)) _ _ _ fun _ => rfl) (by intro i hi he; omega)⟩
        case measure => simp [intOf]; omega
      · have hkn : k = n := by omega
        have hi2 : IsQR wr p tq eq (List.replicate n (0, 0, -1)) (List.replicate 0 (-1, -1, 0) ++ List.replicate (m - 0) (0, 0, 0)) := by have := hi; rw [hkn] at this; simpa using this
        have HI2 := hid hi2
        have c1 : wr.cell? ⟨p, 1, none⟩ = some (.slice (some ⟨eq, 0, none⟩) m m) := by simpa using hi.head.cell (i := 1) rfl
        clear hi hkp hi2 HI hkn
        go_wp2_with fail
        clear c1
        go_loopw [8, 50] (fun _ i wr => ∃ (k : Nat), k ≤ m ∧ i = .int .i64 k ∧ IsQR wr p tq eq (List.replicate n (0, 0, -1)) (List.replicate k (-1, -1, 0) ++ List.replicate (m - k) (0, 0, 0)) ∧ Kp No w wr) (fun _ i _ => m - (intOf i).toNat)
        case atStart => exact ⟨0, Nat.zero_le _, rfl, HI2.out, HK.out⟩
        case round =>
          clear HI2 HK
          obtain ⟨j, hj, rfl, hi, hkp⟩ := hrel
          have HI := hid hi
          have HK := hid hkp
          by_cases hjt : j < m
          · have c1 : wr.cell? ⟨p, 1, none⟩ = some (.slice (some ⟨eq, 0, none⟩) m m) := by have := hi.head.cell (i := 1) rfl; simp at this; rwa [show j + (m - j) = m by omega] at this
            have hx := rep_at m j ((-1 : Int), (-1 : Int), (0 : Int)) (0, 0, 0) hjt
            obtain ⟨t0, t1, t2⟩ := hi.endC hx
            have f0 := hi.endb.frozen (j * 3)
            have f1 := hi.endb.frozen (j * 3 + 1)
            have f2 := hi.endb.frozen (j * 3 + 2)
            have hs := ((hi.end0 hx (-1)).end1 (at_set hx _) (-1)).end2 (at_set (at_set hx _) _) 0
            rw [List.set_set, List.set_set, rep_set m j _ _ hjt] at hs
            have HS := hid hs
            clear hi hkp hx hs
            go_wp2_with fail
            go_roundw
            case rel => exact ⟨j + 1, by omega, by go_num, HS.out, HK.out.trans (((Kp.setCell (S := (· = eq)) wr ⟨eq, j * 3, none⟩ _ fun _ => rfl).trans' (Kp.setCell (S := (· = eq)) _ ⟨eq, j * 3 + 1, none⟩ _ fun _ => rfl)).trans' (Kp.setCell (S := (· = eq)) _ ⟨eq, j * 3 + 2, none⟩ _ fun _ => rfl)) (by intro i hi he; omega)⟩
            case measure => simp [intOf]; omega
          · have hjm : j = m := by omega
            have hi2 : IsQR wr p tq eq (List.replicate n (0, 0, -1)) (List.replicate m (-1, -1, 0)) := by have := hi; rw [hjm] at this; simpa using this
            have HI2 := hid hi2
            clear hi hkp hi2 HI hjm
            go_wp2_with fail
            go_ret2
            first | exact ⟨p, tq, eq, rfl, HI2.out, hp, ht, he, HK.out⟩ | exact ⟨p, rfl, tq, eq, HI2.out, hp, ht, he, HK.out⟩
end Go.Proofs.Ytijpdeanbkodkaa
