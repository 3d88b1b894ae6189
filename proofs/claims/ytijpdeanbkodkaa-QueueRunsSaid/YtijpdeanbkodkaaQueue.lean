/-
  The contracts of package queue: what each function answers, and what becomes of its ties and ends.
-/
import Derived.Test.YtijpdeanbkodkaaRows
import Derived.Test.YtijpdeanbkodkaaQueueP
import Derived.Test.YtijpdeanbkodkaaLib
import Derived.Test.YtijpdeanbkodkaaTail
import Derived.Test.YtijpdeanbkodkaaRef07
import Derived.Test.YtijpdeanbkodkaaStep
import Derived.Deep.DeepCutAuto
import Derived.Deep.CutBlock
namespace Go.Proofs.Ytijpdeanbkodkaa
open Go.RowKit
set_option maxRecDepth 100000

def triC (x : Int × Int × Int) : List Value := [.int .i64 x.1, .int .i64 x.2.1, .int .i64 x.2.2]
def tris (xs : List (Int × Int × Int)) : List Value := xs.flatMap triC
theorem triC_len (x : Int × Int × Int) : (triC x).length = 3 := rfl

theorem el122 : Elem Try.prog 122 127 [.int .i64 0, .int .i64 0, .int .i64 0] 24 := Elem.of (z := .agg #[.int .i64 0, .int .i64 0, .int .i64 0]) Try.underlying122 (by kernel_rfl) rfl (by decide)
theorem el123 : Elem Try.prog 123 129 [.int .i64 0, .int .i64 0, .int .i64 0] 24 := Elem.of (z := .agg #[.int .i64 0, .int .i64 0, .int .i64 0]) Try.underlying123 (by kernel_rfl) rfl (by decide)

theorem Blk.off' {w : World} {b : Nat} {t : TypeId} {cs : List Value} (h : Blk w b t cs) (g j : Nat) (v : Value) (hne : b ≠ g) : Blk (w.setCell ⟨g, j, none⟩ v) b t cs :=
  (Kp.setCell (S := (· = g)) w ⟨g, j, none⟩ v (fun _ => rfl)).blk h hne

/-- Queues as they lie: the head at p, the ties at tq, the ends at eq. -/
structure IsQR (w : World) (p tq eq : Nat) (ties ends : List (Int × Int × Int)) : Prop where
  head : Blk w p 125 [.slice (some ⟨tq, 0, none⟩) ties.length ties.length, .slice (some ⟨eq, 0, none⟩) ends.length ends.length]
  tie : Blk w tq 127 (tris ties)
  endb : Blk w eq 129 (tris ends)
  lt : ties.length ≤ 64
  le : ends.length ≤ 64

theorem IsQR.kp {w w' : World} {p tq eq : Nat} {ties ends : List (Int × Int × Int)} {S : Nat → Prop} (h : IsQR w p tq eq ties ends) (hk : Kp S w w') (hp : ¬ S p) (ht : ¬ S tq) (he : ¬ S eq) : IsQR w' p tq eq ties ends :=
  ⟨hk.blk h.head hp, hk.blk h.tie ht, hk.blk h.endb he, h.lt, h.le⟩
theorem IsQR.kpN {w w' : World} {p tq eq : Nat} {ties ends : List (Int × Int × Int)} (h : IsQR w p tq eq ties ends) (hk : Kp No w w') : IsQR w' p tq eq ties ends := h.kp hk id id id
theorem IsQR.pt {w : World} {p tq eq : Nat} {ties ends : List (Int × Int × Int)} (h : IsQR w p tq eq ties ends) : p ≠ tq := h.head.ne h.tie (by decide)
theorem IsQR.pe {w : World} {p tq eq : Nat} {ties ends : List (Int × Int × Int)} (h : IsQR w p tq eq ties ends) : p ≠ eq := h.head.ne h.endb (by decide)
theorem IsQR.te {w : World} {p tq eq : Nat} {ties ends : List (Int × Int × Int)} (h : IsQR w p tq eq ties ends) : tq ≠ eq := h.tie.ne h.endb (by decide)
theorem IsQR.setTie {w : World} {p tq eq : Nat} {ties ends : List (Int × Int × Int)} (h : IsQR w p tq eq ties ends) {k : Nat} {x x' : Int × Int × Int} (hx : ties[k]? = some x) {j : Nat} (hj : j < 3) {v : Value} (hv : triC x' = (triC x).set j v) :
    IsQR (w.setCell ⟨tq, k * 3 + j, none⟩ v) p tq eq (ties.set k x') ends := by
  refine ⟨?_, ?_, h.endb.off' _ _ _ h.te.symm, by simpa using h.lt, h.le⟩
  · rw [List.length_set]; exact h.head.off' _ _ _ h.pt
  · have := h.tie.set (k * 3 + j) v
    unfold tris at this
    rw [recs_set triC_len hx hj hv] at this
    exact this
theorem IsQR.setEnd {w : World} {p tq eq : Nat} {ties ends : List (Int × Int × Int)} (h : IsQR w p tq eq ties ends) {k : Nat} {x x' : Int × Int × Int} (hx : ends[k]? = some x) {j : Nat} (hj : j < 3) {v : Value} (hv : triC x' = (triC x).set j v) :
    IsQR (w.setCell ⟨eq, k * 3 + j, none⟩ v) p tq eq ties (ends.set k x') := by
  refine ⟨?_, h.tie.off' _ _ _ h.te, ?_, h.lt, by simpa using h.le⟩
  · rw [List.length_set]; exact h.head.off' _ _ _ h.pe
  · have := h.endb.set (k * 3 + j) v
    unfold tris at this
    rw [recs_set triC_len hx hj hv] at this
    exact this
/-- The cells of one tie, of one end. -/
theorem IsQR.tieC {w : World} {p tq eq : Nat} {ties ends : List (Int × Int × Int)} (h : IsQR w p tq eq ties ends) {k : Nat} {x : Int × Int × Int} (hx : ties[k]? = some x) :
    w.cell? ⟨tq, k * 3, none⟩ = some (.int .i64 x.1) ∧ w.cell? ⟨tq, k * 3 + 1, none⟩ = some (.int .i64 x.2.1) ∧ w.cell? ⟨tq, k * 3 + 2, none⟩ = some (.int .i64 x.2.2) := by
  refine ⟨?_, ?_, ?_⟩
  · have := h.tie.cell (i := k * 3 + 0) (v := .int .i64 x.1) (by unfold tris; rw [recs_get triC_len hx (by decide)]; rfl)
    simpa using this
  · exact h.tie.cell (by unfold tris; rw [recs_get triC_len hx (by decide)]; rfl)
  · exact h.tie.cell (by unfold tris; rw [recs_get triC_len hx (by decide)]; rfl)
theorem IsQR.endC {w : World} {p tq eq : Nat} {ties ends : List (Int × Int × Int)} (h : IsQR w p tq eq ties ends) {k : Nat} {x : Int × Int × Int} (hx : ends[k]? = some x) :
    w.cell? ⟨eq, k * 3, none⟩ = some (.int .i64 x.1) ∧ w.cell? ⟨eq, k * 3 + 1, none⟩ = some (.int .i64 x.2.1) ∧ w.cell? ⟨eq, k * 3 + 2, none⟩ = some (.int .i64 x.2.2) := by
  refine ⟨?_, ?_, ?_⟩
  · have := h.endb.cell (i := k * 3 + 0) (v := .int .i64 x.1) (by unfold tris; rw [recs_get triC_len hx (by decide)]; rfl)
    simpa using this
  · exact h.endb.cell (by unfold tris; rw [recs_get triC_len hx (by decide)]; rfl)
  · exact h.endb.cell (by unfold tris; rw [recs_get triC_len hx (by decide)]; rfl)

set_option maxHeartbeats 400000 in
theorem has_any (p tq eq : Nat) (ties ends : List (Int × Int × Int)) (k : Int) (b : Bool) (hb : decide (0 ≤ k ∧ k < ends.length) = b) (w : World) (h : IsQR w p tq eq ties ends) :
    Calls Try.prog 88 #[.pointer (some ⟨p, 0, none⟩), .int .i64 k] w fun e w' => e = .returned (.bool b) ∧ w' = w := by
  have c1 := h.head.cell (i := 1) rfl
  have hle := h.le
  clear h
  subst hb
  by_cases h0 : k < 0
  · rw [decide_eq_false (by omega)]
    go_enter Try.func88, Try.ntmps88
    go_wp2
    go_ret
    exact ⟨rfl, rfl⟩
  by_cases h1 : k < ends.length
  · rw [decide_eq_true (by omega)]
    go_enter Try.func88, Try.ntmps88
    go_wp2
    go_ret
    exact ⟨by simp <;> omega, rfl⟩
  · rw [decide_eq_false (by omega)]
    go_enter Try.func88, Try.ntmps88
    go_wp2
    go_ret
    exact ⟨by simp <;> omega, rfl⟩

set_option maxHeartbeats 400000 in
theorem in_no (p tq eq : Nat) (ties ends : List (Int × Int × Int)) (x : Int) (hx : x < 0 ∨ ties.length ≤ x ∨ ∃ a b, ties[x.toNat]? = some (a, b, -1)) (w : World) (h : IsQR w p tq eq ties ends) :
    Calls Try.prog 79 #[.pointer (some ⟨p, 0, none⟩), .int .i64 x] w fun e w' => e = .returned (.tuple #[.int .i64 0, .bool false]) ∧ w' = w := by
  have c0 := h.head.cell (i := 0) rfl
  have hle := h.lt
  by_cases h0 : x < 0
  · clear h hx
    go_enter Try.func79, Try.ntmps79
    go_wp2
    go_ret2
    exact ⟨rfl, rfl⟩
  by_cases h1 : ties.length ≤ x
  · clear h hx
    go_enter Try.func79, Try.ntmps79
    go_wp2
    go_ret2
    exact ⟨rfl, rfl⟩
  · obtain ⟨a, b, ht⟩ : ∃ a b, ties[x.toNat]? = some (a, b, -1) := by rcases hx with hx | hx | hx <;> first | exact hx | omega
    obtain ⟨_, _, hc⟩ := h.tieC ht
    obtain ⟨X, rfl⟩ := Int.eq_ofNat_of_zero_le (show 0 ≤ x by omega)
    simp only [Int.toNat_natCast] at hc
    clear h hx ht
    go_enter Try.func79, Try.ntmps79
    go_wp2
    go_ret2
    exact ⟨rfl, rfl⟩

set_option maxHeartbeats 400000 in
theorem in_yes (p tq eq : Nat) (ties ends : List (Int × Int × Int)) (X : Nat) (a b : Int) (k : Nat) (ht : ties[X]? = some (a, b, (k : Int))) (w : World) (h : IsQR w p tq eq ties ends) :
    Calls Try.prog 79 #[.pointer (some ⟨p, 0, none⟩), .int .i64 X] w fun e w' => e = .returned (.tuple #[.int .i64 k, .bool true]) ∧ w' = w := by
  have c0 := h.head.cell (i := 0) rfl
  have hle := h.lt
  have hX : X < ties.length := (List.getElem?_eq_some_iff.1 ht).1
  obtain ⟨_, _, hc⟩ := h.tieC ht
  have hk : ((k : Int) == -1) = false := by simp <;> omega
  clear h ht
  go_enter Try.func79, Try.ntmps79
  go_wp2
  go_ret2
  exact ⟨rfl, rfl⟩

set_option maxHeartbeats 400000 in
theorem first_no (p tq eq : Nat) (ties ends : List (Int × Int × Int)) (k : Int) (hk : k < 0 ∨ ends.length ≤ k ∨ ∃ a b, ends[k.toNat]? = some (a, b, 0)) (w : World) (h : IsQR w p tq eq ties ends) :
    Calls Try.prog 77 #[.pointer (some ⟨p, 0, none⟩), .int .i64 k] w fun e w' => e = .returned (.tuple #[.int .i64 0, .bool false]) ∧ w' = w := by
  have H := hid h
  have c1 := h.head.cell (i := 1) rfl
  have hle := h.le
  by_cases h0 : k < 0 ∨ ends.length ≤ k
  · have HB := hid (show decide (0 ≤ k ∧ k < ends.length) = false by simp; omega)
    clear h hk h0
    go_enter Try.func77, Try.ntmps77
    go_wp2_with (go_at_call 88; refine (has_any p tq eq ties ends k false HB.out _ H.out).mono ?_; rintro e w' ⟨rfl, hw'⟩; rw [hw']; clear hw')
    go_ret2
    exact ⟨rfl, rfl⟩
  · have HB := hid (show decide (0 ≤ k ∧ k < ends.length) = true by simp; omega)
    obtain ⟨a, b, ht⟩ : ∃ a b, ends[k.toNat]? = some (a, b, 0) := by rcases hk with hk | hk | hk <;> first | exact hk | omega
    obtain ⟨_, _, hc⟩ := h.endC ht
    obtain ⟨X, rfl⟩ := Int.eq_ofNat_of_zero_le (show 0 ≤ k by omega)
    simp only [Int.toNat_natCast] at hc
    have hX : X < ends.length := by omega
    clear h hk ht h0
    go_enter Try.func77, Try.ntmps77
    go_wp2_with (go_at_call 88; refine (has_any p tq eq ties ends X true HB.out _ H.out).mono ?_; rintro e w' ⟨rfl, hw'⟩; rw [hw']; clear hw')
    go_ret2
    exact ⟨rfl, rfl⟩

set_option maxHeartbeats 400000 in
theorem first_yes (p tq eq : Nat) (ties ends : List (Int × Int × Int)) (k : Nat) (a b : Int) (m : Nat) (hm : 0 < m) (ht : ends[k]? = some (a, b, (m : Int))) (w : World) (h : IsQR w p tq eq ties ends) :
    Calls Try.prog 77 #[.pointer (some ⟨p, 0, none⟩), .int .i64 k] w fun e w' => e = .returned (.tuple #[.int .i64 a, .bool true]) ∧ w' = w := by
  have H := hid h
  have c1 := h.head.cell (i := 1) rfl
  have hle := h.le
  have hX : k < ends.length := (List.getElem?_eq_some_iff.1 ht).1
  have HB := hid (show decide (0 ≤ (k : Int) ∧ (k : Int) < ends.length) = true by simp; omega)
  obtain ⟨hc0, _, hc⟩ := h.endC ht
  have hmz : ((m : Int) == 0) = false := by simp; omega
  clear h ht
  go_enter Try.func77, Try.ntmps77
  go_wp2_with (go_at_call 88; refine (has_any p tq eq ties ends k true HB.out _ H.out).mono ?_; rintro e w' ⟨rfl, hw'⟩; rw [hw']; clear hw')
  go_ret2
  exact ⟨rfl, rfl⟩

set_option maxHeartbeats 400000 in
theorem lenQ_no (p tq eq : Nat) (ties ends : List (Int × Int × Int)) (k : Int) (hk : k < 0 ∨ ends.length ≤ k) (w : World) (h : IsQR w p tq eq ties ends) :
    Calls Try.prog 69 #[.pointer (some ⟨p, 0, none⟩), .int .i64 k] w fun e w' => e = .returned (.int .i64 0) ∧ w' = w := by
  have H := hid h
  have HB := hid (show decide (0 ≤ k ∧ k < ends.length) = false by simp; omega)
  clear h hk
  go_enter Try.func69, Try.ntmps69
  go_wp2_with (go_at_call 88; refine (has_any p tq eq ties ends k false HB.out _ H.out).mono ?_; rintro e w' ⟨rfl, hw'⟩; rw [hw']; clear hw')
  go_ret
  exact ⟨rfl, rfl⟩

set_option maxHeartbeats 400000 in
theorem lenQ_yes (p tq eq : Nat) (ties ends : List (Int × Int × Int)) (k : Nat) (a b m : Int) (ht : ends[k]? = some (a, b, m)) (w : World) (h : IsQR w p tq eq ties ends) :
    Calls Try.prog 69 #[.pointer (some ⟨p, 0, none⟩), .int .i64 k] w fun e w' => e = .returned (.int .i64 m) ∧ w' = w := by
  have H := hid h
  have c1 := h.head.cell (i := 1) rfl
  have hle := h.le
  have hX : k < ends.length := (List.getElem?_eq_some_iff.1 ht).1
  have HB := hid (show decide (0 ≤ (k : Int) ∧ (k : Int) < ends.length) = true by simp; omega)
  obtain ⟨_, _, hc⟩ := h.endC ht
  clear h ht
  go_enter Try.func69, Try.ntmps69
  go_wp2_with (go_at_call 88; refine (has_any p tq eq ties ends k true HB.out _ H.out).mono ?_; rintro e w' ⟨rfl, hw'⟩; rw [hw']; clear hw')
  go_ret
  exact ⟨rfl, rfl⟩

section
variable {w : World} {p tq eq : Nat} {ties ends : List (Int × Int × Int)} {k : Nat} {a b c : Int}
theorem IsQR.tie0 (h : IsQR w p tq eq ties ends) (hx : ties[k]? = some (a, b, c)) (v : Int) : IsQR (w.setCell ⟨tq, k * 3, none⟩ (.int .i64 v)) p tq eq (ties.set k (v, b, c)) ends := h.setTie hx (j := 0) (by decide) rfl
theorem IsQR.tie1 (h : IsQR w p tq eq ties ends) (hx : ties[k]? = some (a, b, c)) (v : Int) : IsQR (w.setCell ⟨tq, k * 3 + 1, none⟩ (.int .i64 v)) p tq eq (ties.set k (a, v, c)) ends := h.setTie hx (j := 1) (by decide) rfl
theorem IsQR.tie2 (h : IsQR w p tq eq ties ends) (hx : ties[k]? = some (a, b, c)) (v : Int) : IsQR (w.setCell ⟨tq, k * 3 + 2, none⟩ (.int .i64 v)) p tq eq (ties.set k (a, b, v)) ends := h.setTie hx (j := 2) (by decide) rfl
theorem IsQR.end0 (h : IsQR w p tq eq ties ends) (hx : ends[k]? = some (a, b, c)) (v : Int) : IsQR (w.setCell ⟨eq, k * 3, none⟩ (.int .i64 v)) p tq eq ties (ends.set k (v, b, c)) := h.setEnd hx (j := 0) (by decide) rfl
theorem IsQR.end1 (h : IsQR w p tq eq ties ends) (hx : ends[k]? = some (a, b, c)) (v : Int) : IsQR (w.setCell ⟨eq, k * 3 + 1, none⟩ (.int .i64 v)) p tq eq ties (ends.set k (a, v, c)) := h.setEnd hx (j := 1) (by decide) rfl
theorem IsQR.end2 (h : IsQR w p tq eq ties ends) (hx : ends[k]? = some (a, b, c)) (v : Int) : IsQR (w.setCell ⟨eq, k * 3 + 2, none⟩ (.int .i64 v)) p tq eq ties (ends.set k (a, b, v)) := h.setEnd hx (j := 2) (by decide) rfl
theorem Kp.sets {S : Nat → Prop} {w w1 : World} (h : Kp S w w1) {a1 a2 a3 a4 a5 a6 : Addr} {v1 v2 v3 v4 v5 v6 : Value} (h1 : True → S a1.block) (h2 : True → S a2.block) (h3 : True → S a3.block) (h4 : True → S a4.block) (h5 : True → S a5.block) (h6 : True → S a6.block) :
    Kp S w ((((((w1.setCell a1 v1).setCell a2 v2).setCell a3 v3).setCell a4 v4).setCell a5 v5).setCell a6 v6) :=
  (((((h.trans' (Kp.setCell _ _ _ fun _ => h1 trivial)).trans' (Kp.setCell _ _ _ fun _ => h2 trivial)).trans' (Kp.setCell _ _ _ fun _ => h3 trivial)).trans' (Kp.setCell _ _ _ fun _ => h4 trivial)).trans' (Kp.setCell _ _ _ fun _ => h5 trivial)).trans' (Kp.setCell _ _ _ fun _ => h6 trivial)
theorem at_set {α : Type} {l : List α} {k : Nat} {x : α} (h : l[k]? = some x) (y : α) : (l.set k y)[k]? = some y := List.getElem?_set_self (List.getElem?_eq_some_iff.1 h).1
theorem IsQR.tie012 (h : IsQR w p tq eq ties ends) (hx : ties[k]? = some (a, b, c)) (u v z : Int) :
    IsQR (((w.setCell ⟨tq, k * 3, none⟩ (.int .i64 u)).setCell ⟨tq, k * 3 + 1, none⟩ (.int .i64 v)).setCell ⟨tq, k * 3 + 2, none⟩ (.int .i64 z)) p tq eq (ties.set k (u, v, z)) ends := by
  have := ((h.tie0 hx u).tie1 (at_set hx _) v).tie2 (by simpa using at_set hx (u, v, c)) z
  simpa using this
end

set_option maxHeartbeats 1000000 in
theorem push_nil_any (p tq eq : Nat) (ties ends : List (Int × Int × Int)) (k X : Nat) (f m a b : Int) (hm : 0 ≤ m ∧ m ≤ 64) (ht : ties[X]? = some (a, b, -1)) (he : ends[k]? = some (f, -1, m)) (w : World) (h : IsQR w p tq eq ties ends) :
    Calls Try.prog 72 #[.pointer (some ⟨p, 0, none⟩), .int .i64 k, .int .i64 X] w fun e w' => e = .returned (.bool true) ∧ IsQR w' p tq eq (ties.set X (-1, -1, (k : Int))) (ends.set k (X, X, m + 1)) ∧ Kp (fun i => i = tq ∨ i = eq) w w' := by
  have H := hid h
  have HT := hid ht
  have HE := hid he
  have c0 := h.head.cell (i := 0) rfl
  have c1 := h.head.cell (i := 1) rfl
  have hlt := h.lt
  have hle := h.le
  have hX : X < ties.length := (List.getElem?_eq_some_iff.1 ht).1
  have hk : k < ends.length := (List.getElem?_eq_some_iff.1 he).1
  obtain ⟨t0, t1, t2⟩ := h.tieC ht
  obtain ⟨e0, e1, e2⟩ := h.endC he
  have ft0 := h.tie.frozen (X * 3)
  have ft1 := h.tie.frozen (X * 3 + 1)
  have ft2 := h.tie.frozen (X * 3 + 2)
  have fe0 := h.endb.frozen (k * 3)
  have fe1 := h.endb.frozen (k * 3 + 1)
  have fe2 := h.endb.frozen (k * 3 + 2)
  have hpt := h.pt
  have hpe := h.pe
  have hte := h.te
  have hpt2 := hpt.symm
  have hpe2 := hpe.symm
  have hte2 := hte.symm
  obtain ⟨hm1, hm2⟩ := hm
  have HB := hid (show decide (0 ≤ (k : Int) ∧ (k : Int) < ends.length) = true by simp; omega)
  clear h ht he
  go_enter Try.func72, Try.ntmps72
  go_wp2_with fail
  refine (in_no p tq eq ties ends X (.inr (.inr ⟨a, b, by simpa using HT.out⟩)) _ H.out).mono ?_
  rintro e w' ⟨rfl, hw'⟩
  rw [hw']; clear hw' w'
  go_wp2_with fail
  refine (has_any p tq eq ties ends k true HB.out _ H.out).mono ?_
  rintro e w' ⟨rfl, hw'⟩
  rw [hw']; clear hw' w'
  go_wp2_with fail
  refine wp_quiet_tail 12 (by kernel_rfl) (by kernel_rfl) ?_
  simp only [List.take_succ_cons, List.take_zero, List.drop_succ_cons, List.drop_zero]
  repeat (go_big_quiet_step (fail))
  refine wpQuiet_nil ?_
  intro m2
  go_wp2_with fail
  go_ret
  refine ⟨rfl, ?_, Kp.sets (Kp.drewN _ _ _) (fun _ => .inl rfl) (fun _ => .inl rfl) (fun _ => .inl rfl) (fun _ => .inr rfl) (fun _ => .inr rfl) (fun _ => .inr rfl)⟩
  have h1 := (H.out.kpN (Kp.drewN No w m2)).tie012 HT.out (-1) (-1) k
  have h2 := ((h1.end0 HE.out X).end1 (at_set HE.out _) X).end2 (at_set (at_set HE.out _) _) (m + 1)
  rw [List.set_set, List.set_set] at h2
  exact h2

set_option maxHeartbeats 1000000 in
theorem push_snoc_any (p tq eq : Nat) (ties ends : List (Int × Int × Int)) (k X Y : Nat) (f m a b ya yb yk : Int) (hm : 0 ≤ m ∧ m ≤ 64) (ht : ties[X]? = some (a, b, -1)) (hy : ties[Y]? = some (ya, yb, yk)) (hxy : X ≠ Y) (he : ends[k]? = some (f, (Y : Int), m)) (w : World) (h : IsQR w p tq eq ties ends) :
    Calls Try.prog 72 #[.pointer (some ⟨p, 0, none⟩), .int .i64 k, .int .i64 X] w fun e w' => e = .returned (.bool true) ∧ IsQR w' p tq eq ((ties.set X (Y, -1, (k : Int))).set Y (ya, (X : Int), yk)) (ends.set k (f, X, m + 1)) ∧ Kp (fun i => i = tq ∨ i = eq) w w' := by
  have H := hid h
  have HT := hid ht
  have HE := hid he
  have HY := hid hy
  have c0 := h.head.cell (i := 0) rfl
  have c1 := h.head.cell (i := 1) rfl
  have hlt := h.lt
  have hle := h.le
  have hX : X < ties.length := (List.getElem?_eq_some_iff.1 ht).1
  have hY : Y < ties.length := (List.getElem?_eq_some_iff.1 hy).1
  have hk : k < ends.length := (List.getElem?_eq_some_iff.1 he).1
  obtain ⟨t0, t1, t2⟩ := h.tieC ht
  obtain ⟨y0, y1, y2⟩ := h.tieC hy
  obtain ⟨e0, e1, e2⟩ := h.endC he
  have ft0 := h.tie.frozen (X * 3)
  have ft1 := h.tie.frozen (X * 3 + 1)
  have ft2 := h.tie.frozen (X * 3 + 2)
  have fy1 := h.tie.frozen (Y * 3 + 1)
  have fe1 := h.endb.frozen (k * 3 + 1)
  have fe2 := h.endb.frozen (k * 3 + 2)
  have hpt := h.pt
  have hpe := h.pe
  have hte := h.te
  have hpt2 := hpt.symm
  have hpe2 := hpe.symm
  have hte2 := hte.symm
  have hyx : Y ≠ X := hxy.symm
  have hlast : ((Y : Int) == -1) = false := by simp <;> omega
  obtain ⟨hm1, hm2⟩ := hm
  have HB := hid (show decide (0 ≤ (k : Int) ∧ (k : Int) < ends.length) = true by simp; omega)
  clear h ht he hy
  go_enter Try.func72, Try.ntmps72
  go_wp2_with fail
  refine (in_no p tq eq ties ends X (.inr (.inr ⟨a, b, by simpa using HT.out⟩)) _ H.out).mono ?_
  rintro e w' ⟨rfl, hw'⟩
  rw [hw']; clear hw' w'
  go_wp2_with fail
  refine (has_any p tq eq ties ends k true HB.out _ H.out).mono ?_
  rintro e w' ⟨rfl, hw'⟩
  rw [hw']; clear hw' w'
  go_wp2_with fail
  refine wp_quiet_tail 12 (by kernel_rfl) (by kernel_rfl) ?_
  simp only [List.take_succ_cons, List.take_zero, List.drop_succ_cons, List.drop_zero]
  repeat (go_big_quiet_step (fail))
  refine wpQuiet_nil ?_
  intro m2
  go_wp2_with fail
  refine wp_quiet_tail 11 (by kernel_rfl) (by kernel_rfl) ?_
  simp only [List.take_succ_cons, List.take_zero, List.drop_succ_cons, List.drop_zero]
  repeat (go_big_quiet_step (fail))
  refine wpQuiet_nil ?_
  intro m3
  go_wp2_with fail
  go_ret
  have h1 := (H.out.kpN (Kp.drewN No w m2)).tie012 HT.out Y (-1) k
  have h2 := (h1.kpN (Kp.drewN No _ m3)).tie1 (by rw [List.getElem?_set_ne hxy]; exact HY.out) X
  have h3 := (h2.end1 HE.out X).end2 (at_set HE.out _) (m + 1)
  rw [List.set_set] at h3
  refine ⟨rfl, h3, ((((((Kp.drewN _ _ _).trans' (Kp.setCell _ _ _ fun _ => .inl rfl)).trans' (Kp.setCell _ _ _ fun _ => .inl rfl)).trans' (Kp.setCell _ _ _ fun _ => .inl rfl)).trans' (Kp.drewN _ _ _)).trans' (Kp.setCell _ _ _ fun _ => .inl rfl)).trans' ((Kp.setCell _ _ _ fun _ => .inr rfl).trans' (Kp.setCell _ _ _ fun _ => .inr rfl))⟩

set_option maxHeartbeats 1000000 in
theorem drop_ab (p tq eq : Nat) (ties ends : List (Int × Int × Int)) (k X : Nat) (f l m : Int) (A : Nat) (aa ab ak : Int) (hA : ties[A]? = some (aa, ab, ak)) (hAX : A ≠ X) (B : Nat) (ba bb bk : Int) (hB : ties[B]? = some (ba, bb, bk)) (hBX : B ≠ X) (hAB : A ≠ B) (hm : 1 ≤ m ∧ m ≤ 64) (ht : ties[X]? = some ((A : Int), (B : Int), (k : Int))) (he : ends[k]? = some (f, l, m)) (w : World) (h : IsQR w p tq eq ties ends) :
    Calls Try.prog 76 #[.pointer (some ⟨p, 0, none⟩), .int .i64 X] w fun e w' => e = .returned (.bool true) ∧ IsQR w' p tq eq (((ties.set A (aa, (B : Int), ak)).set B ((A : Int), bb, bk)).set X ((A : Int), (B : Int), -1)) (ends.set k (f, l, m - 1)) ∧ Kp (fun i => i = tq ∨ i = eq) w w' := by
  have H := hid h
  have HT := hid ht
  have HE := hid he
  have c0 := h.head.cell (i := 0) rfl
  have c1 := h.head.cell (i := 1) rfl
  have hlt := h.lt
  have hle := h.le
  have hX : X < ties.length := (List.getElem?_eq_some_iff.1 ht).1
  have hk : k < ends.length := (List.getElem?_eq_some_iff.1 he).1
  obtain ⟨t0, t1, t2⟩ := h.tieC ht
  have HA := hid hA
  have hA1 : A < ties.length := (List.getElem?_eq_some_iff.1 hA).1
  have hXA := hAX.symm
  have hAz : ((A : Int) == -1) = false := by simp <;> omega
  clear hA
  have HB := hid hB
  have hB1 : B < ties.length := (List.getElem?_eq_some_iff.1 hB).1
  have hXB := hBX.symm
  have hBz : ((B : Int) == -1) = false := by simp <;> omega
  clear hB
  have hBA := hAB.symm
  have hpt := h.pt
  have hpe := h.pe
  have hte := h.te
  have hpt2 := hpt.symm
  have hpe2 := hpe.symm
  have hte2 := hte.symm
  have hp1 := h.head.lt
  have ht1 := h.tie.lt
  have he1 := h.endb.lt
  have hn1 : tq ≠ w.heap.size := by omega
  have hn2 : eq ≠ w.heap.size := by omega
  have hn3 : p ≠ w.heap.size := by omega
  have hn4 := hn1.symm
  have hn5 := hn2.symm
  have hn6 := hn3.symm
  obtain ⟨hm1, hm2⟩ := hm
  clear h ht he
  go_enter Try.func76, Try.ntmps76
  go_wp2_with fail
  refine (in_yes p tq eq ties ends X _ _ k HT.out _ H.out).mono ?_
  rintro e w' ⟨rfl, hw'⟩
  rw [hw']; clear hw' w'
  go_wp2_with fail
  go_region_held3 (fun w' => w'.cell? ⟨p, 0, none⟩ = some (.slice (some ⟨tq, 0, none⟩) ties.length ties.length) ∧ w'.cell? ⟨p, 1, none⟩ = some (.slice (some ⟨eq, 0, none⟩) ends.length ends.length) ∧ w'.cell? ⟨tq, X * 3, none⟩ = some (.int .i64 (A : Int)) ∧ w'.cell? ⟨tq, X * 3 + 1, none⟩ = some (.int .i64 (B : Int)) ∧ w'.cell? ⟨tq, X * 3 + 2, none⟩ = some (.int .i64 k)) (go_keep) (fail)
  go_upto_region 5 with (fail)
  have HZ := hid ((Blk.new w 127 [.int .i64 (A : Int), .int .i64 (B : Int), .int .i64 k]).kp' (Kp.drew No _))
  have HD := hid (H.out.kpN ((Kp.alloc No w (.cells [Value.int .i64 (A : Int), .int .i64 (B : Int), .int .i64 k].toArray 127)).trans' (Kp.drew No _)))
  have HKD := hid ((Kp.alloc (fun i => i = tq ∨ i = eq) w (.cells [Value.int .i64 (A : Int), .int .i64 (B : Int), .int .i64 k].toArray 127)).trans' (Kp.drew _ _))
  clear c0 c1 t0 t1 t2 H
  generalize hwd : (w.alloc (.cells [Value.int .i64 (A : Int), .int .i64 (B : Int), .int .i64 k].toArray 127)).drew = wd at *
  have hwd2 : (w.alloc (.cells #[Value.int .i64 (A : Int), .int .i64 (B : Int), .int .i64 k] 127)).drew = wd := hwd
  try rw [hwd2]
  clear hwd hwd2
  have c0 := HD.out.head.cell (i := 0) rfl
  have c1 := HD.out.head.cell (i := 1) rfl
  have z0 := HZ.out.cell (i := 0) rfl
  have z1 := HZ.out.cell (i := 1) rfl
  obtain ⟨t0, t1, t2⟩ := HD.out.tieC HT.out
  obtain ⟨e0, e1, e2⟩ := HD.out.endC HE.out
  have ft2 := HD.out.tie.frozen (X * 3 + 2)
  have fe0 := HD.out.endb.frozen (k * 3)
  have fe1 := HD.out.endb.frozen (k * 3 + 1)
  have fe2 := HD.out.endb.frozen (k * 3 + 2)
  obtain ⟨a0, a1, a2⟩ := HD.out.tieC HA.out
  have fa1 := HD.out.tie.frozen (A * 3 + 1)
  obtain ⟨b0, b1, b2⟩ := HD.out.tieC HB.out
  have fb0 := HD.out.tie.frozen (B * 3)
  generalize w.heap.size = zb at *
  go_wp2_with fail
  refine wp_quiet_tail 10 (by kernel_rfl) (by kernel_rfl) ?_
  simp only [List.take_succ_cons, List.take_zero, List.drop_succ_cons, List.drop_zero]
  repeat (go_big_quiet_step (fail))
  refine wpQuiet_nil ?_
  intro m2
  go_wp2_with fail
  refine wp_quiet_tail 10 (by kernel_rfl) (by kernel_rfl) ?_
  simp only [List.take_succ_cons, List.take_zero, List.drop_succ_cons, List.drop_zero]
  repeat (go_big_quiet_step (fail))
  refine wpQuiet_nil ?_
  intro m3
  go_wp2_with fail
  go_ret
  have s1 := (HD.out.kpN (Kp.drewN No _ m2)).tie1 HA.out (B : Int)
  have s2 := (s1.kpN (Kp.drewN No _ m3)).tie0 (by rw [List.getElem?_set_ne hAB]; exact HB.out) (A : Int)
  have s3 := s2.end2 HE.out (m - 1)
  have s4 := s3.tie2 (by rw [List.getElem?_set_ne hBX, List.getElem?_set_ne hAX]; exact HT.out) (-1)
  exact ⟨rfl, s4, (((((HKD.out.trans' (Kp.drewN _ _ _)).trans' (Kp.setCell _ _ _ fun _ => .inl rfl)).trans' (Kp.drewN _ _ _)).trans' (Kp.setCell _ _ _ fun _ => .inl rfl)).trans' (Kp.setCell _ _ _ fun _ => .inr rfl)).trans' (Kp.setCell _ _ _ fun _ => .inl rfl)⟩

set_option maxHeartbeats 1000000 in
theorem drop_an (p tq eq : Nat) (ties ends : List (Int × Int × Int)) (k X : Nat) (f l m : Int) (A : Nat) (aa ab ak : Int) (hA : ties[A]? = some (aa, ab, ak)) (hAX : A ≠ X) (hm : 1 ≤ m ∧ m ≤ 64) (ht : ties[X]? = some ((A : Int), -1, (k : Int))) (he : ends[k]? = some (f, l, m)) (w : World) (h : IsQR w p tq eq ties ends) :
    Calls Try.prog 76 #[.pointer (some ⟨p, 0, none⟩), .int .i64 X] w fun e w' => e = .returned (.bool true) ∧ IsQR w' p tq eq ((ties.set A (aa, -1, ak)).set X ((A : Int), -1, -1)) (ends.set k (f, (A : Int), m - 1)) ∧ Kp (fun i => i = tq ∨ i = eq) w w' := by
  have H := hid h
  have HT := hid ht
  have HE := hid he
  have c0 := h.head.cell (i := 0) rfl
  have c1 := h.head.cell (i := 1) rfl
  have hlt := h.lt
  have hle := h.le
  have hX : X < ties.length := (List.getElem?_eq_some_iff.1 ht).1
  have hk : k < ends.length := (List.getElem?_eq_some_iff.1 he).1
  obtain ⟨t0, t1, t2⟩ := h.tieC ht
  have HA := hid hA
  have hA1 : A < ties.length := (List.getElem?_eq_some_iff.1 hA).1
  have hXA := hAX.symm
  have hAz : ((A : Int) == -1) = false := by simp <;> omega
  clear hA
  have hpt := h.pt
  have hpe := h.pe
  have hte := h.te
  have hpt2 := hpt.symm
  have hpe2 := hpe.symm
  have hte2 := hte.symm
  have hp1 := h.head.lt
  have ht1 := h.tie.lt
  have he1 := h.endb.lt
  have hn1 : tq ≠ w.heap.size := by omega
  have hn2 : eq ≠ w.heap.size := by omega
  have hn3 : p ≠ w.heap.size := by omega
  have hn4 := hn1.symm
  have hn5 := hn2.symm
  have hn6 := hn3.symm
  obtain ⟨hm1, hm2⟩ := hm
  clear h ht he
  go_enter Try.func76, Try.ntmps76
  go_wp2_with fail
  refine (in_yes p tq eq ties ends X _ _ k HT.out _ H.out).mono ?_
  rintro e w' ⟨rfl, hw'⟩
  rw [hw']; clear hw' w'
  go_wp2_with fail
  go_region_held3 (fun w' => w'.cell? ⟨p, 0, none⟩ = some (.slice (some ⟨tq, 0, none⟩) ties.length ties.length) ∧ w'.cell? ⟨p, 1, none⟩ = some (.slice (some ⟨eq, 0, none⟩) ends.length ends.length) ∧ w'.cell? ⟨tq, X * 3, none⟩ = some (.int .i64 (A : Int)) ∧ w'.cell? ⟨tq, X * 3 + 1, none⟩ = some (.int .i64 (-1)) ∧ w'.cell? ⟨tq, X * 3 + 2, none⟩ = some (.int .i64 k)) (go_keep) (fail)
  go_upto_region 5 with (fail)
  have HZ := hid ((Blk.new w 127 [.int .i64 (A : Int), .int .i64 (-1), .int .i64 k]).kp' (Kp.drew No _))
  have HD := hid (H.out.kpN ((Kp.alloc No w (.cells [Value.int .i64 (A : Int), .int .i64 (-1), .int .i64 k].toArray 127)).trans' (Kp.drew No _)))
  have HKD := hid ((Kp.alloc (fun i => i = tq ∨ i = eq) w (.cells [Value.int .i64 (A : Int), .int .i64 (-1), .int .i64 k].toArray 127)).trans' (Kp.drew _ _))
  clear c0 c1 t0 t1 t2 H
  generalize hwd : (w.alloc (.cells [Value.int .i64 (A : Int), .int .i64 (-1), .int .i64 k].toArray 127)).drew = wd at *
  have hwd2 : (w.alloc (.cells #[Value.int .i64 (A : Int), .int .i64 (-1), .int .i64 k] 127)).drew = wd := hwd
  try rw [hwd2]
  clear hwd hwd2
  have c0 := HD.out.head.cell (i := 0) rfl
  have c1 := HD.out.head.cell (i := 1) rfl
  have z0 := HZ.out.cell (i := 0) rfl
  have z1 := HZ.out.cell (i := 1) rfl
  obtain ⟨t0, t1, t2⟩ := HD.out.tieC HT.out
  obtain ⟨e0, e1, e2⟩ := HD.out.endC HE.out
  have ft2 := HD.out.tie.frozen (X * 3 + 2)
  have fe0 := HD.out.endb.frozen (k * 3)
  have fe1 := HD.out.endb.frozen (k * 3 + 1)
  have fe2 := HD.out.endb.frozen (k * 3 + 2)
  obtain ⟨a0, a1, a2⟩ := HD.out.tieC HA.out
  have fa1 := HD.out.tie.frozen (A * 3 + 1)
  generalize w.heap.size = zb at *
  go_wp2_with fail
  refine wp_quiet_tail 10 (by kernel_rfl) (by kernel_rfl) ?_
  simp only [List.take_succ_cons, List.take_zero, List.drop_succ_cons, List.drop_zero]
  repeat (go_big_quiet_step (fail))
  refine wpQuiet_nil ?_
  intro m2
  go_wp2_with fail
  go_ret
  have s1 := (HD.out.kpN (Kp.drewN No _ m2)).tie1 HA.out (-1)
  have s2 := s1.end1 HE.out (A : Int)
  have s3 := s2.end2 (at_set HE.out _) (m - 1)
  have s4 := s3.tie2 (by rw [List.getElem?_set_ne hAX]; exact HT.out) (-1)
  rw [List.set_set] at s4
  exact ⟨rfl, s4, ((((HKD.out.trans' (Kp.drewN _ _ _)).trans' (Kp.setCell _ _ _ fun _ => .inl rfl)).trans' (Kp.setCell _ _ _ fun _ => .inr rfl)).trans' (Kp.setCell _ _ _ fun _ => .inr rfl)).trans' (Kp.setCell _ _ _ fun _ => .inl rfl)⟩

set_option maxHeartbeats 1000000 in
theorem drop_nb (p tq eq : Nat) (ties ends : List (Int × Int × Int)) (k X : Nat) (f l m : Int) (B : Nat) (ba bb bk : Int) (hB : ties[B]? = some (ba, bb, bk)) (hBX : B ≠ X) (hm : 1 ≤ m ∧ m ≤ 64) (ht : ties[X]? = some (-1, (B : Int), (k : Int))) (he : ends[k]? = some (f, l, m)) (w : World) (h : IsQR w p tq eq ties ends) :
    Calls Try.prog 76 #[.pointer (some ⟨p, 0, none⟩), .int .i64 X] w fun e w' => e = .returned (.bool true) ∧ IsQR w' p tq eq ((ties.set B (-1, bb, bk)).set X (-1, (B : Int), -1)) (ends.set k ((B : Int), l, m - 1)) ∧ Kp (fun i => i = tq ∨ i = eq) w w' := by
  have H := hid h
  have HT := hid ht
  have HE := hid he
  have c0 := h.head.cell (i := 0) rfl
  have c1 := h.head.cell (i := 1) rfl
  have hlt := h.lt
  have hle := h.le
  have hX : X < ties.length := (List.getElem?_eq_some_iff.1 ht).1
  have hk : k < ends.length := (List.getElem?_eq_some_iff.1 he).1
  obtain ⟨t0, t1, t2⟩ := h.tieC ht
  have HB := hid hB
  have hB1 : B < ties.length := (List.getElem?_eq_some_iff.1 hB).1
  have hXB := hBX.symm
  have hBz : ((B : Int) == -1) = false := by simp <;> omega
  clear hB
  have hpt := h.pt
  have hpe := h.pe
  have hte := h.te
  have hpt2 := hpt.symm
  have hpe2 := hpe.symm
  have hte2 := hte.symm
  have hp1 := h.head.lt
  have ht1 := h.tie.lt
  have he1 := h.endb.lt
  have hn1 : tq ≠ w.heap.size := by omega
  have hn2 : eq ≠ w.heap.size := by omega
  have hn3 : p ≠ w.heap.size := by omega
  have hn4 := hn1.symm
  have hn5 := hn2.symm
  have hn6 := hn3.symm
  obtain ⟨hm1, hm2⟩ := hm
  clear h ht he
  go_enter Try.func76, Try.ntmps76
  go_wp2_with fail
  refine (in_yes p tq eq ties ends X _ _ k HT.out _ H.out).mono ?_
  rintro e w' ⟨rfl, hw'⟩
  rw [hw']; clear hw' w'
  go_wp2_with fail
  go_region_held3 (fun w' => w'.cell? ⟨p, 0, none⟩ = some (.slice (some ⟨tq, 0, none⟩) ties.length ties.length) ∧ w'.cell? ⟨p, 1, none⟩ = some (.slice (some ⟨eq, 0, none⟩) ends.length ends.length) ∧ w'.cell? ⟨tq, X * 3, none⟩ = some (.int .i64 (-1)) ∧ w'.cell? ⟨tq, X * 3 + 1, none⟩ = some (.int .i64 (B : Int)) ∧ w'.cell? ⟨tq, X * 3 + 2, none⟩ = some (.int .i64 k)) (go_keep) (fail)
  go_upto_region 5 with (fail)
  have HZ := hid ((Blk.new w 127 [.int .i64 (-1), .int .i64 (B : Int), .int .i64 k]).kp' (Kp.drew No _))
  have HD := hid (H.out.kpN ((Kp.alloc No w (.cells [Value.int .i64 (-1), .int .i64 (B : Int), .int .i64 k].toArray 127)).trans' (Kp.drew No _)))
  have HKD := hid ((Kp.alloc (fun i => i = tq ∨ i = eq) w (.cells [Value.int .i64 (-1), .int .i64 (B : Int), .int .i64 k].toArray 127)).trans' (Kp.drew _ _))
  clear c0 c1 t0 t1 t2 H
  generalize hwd : (w.alloc (.cells [Value.int .i64 (-1), .int .i64 (B : Int), .int .i64 k].toArray 127)).drew = wd at *
  have hwd2 : (w.alloc (.cells #[Value.int .i64 (-1), .int .i64 (B : Int), .int .i64 k] 127)).drew = wd := hwd
  try rw [hwd2]
  clear hwd hwd2
  have c0 := HD.out.head.cell (i := 0) rfl
  have c1 := HD.out.head.cell (i := 1) rfl
  have z0 := HZ.out.cell (i := 0) rfl
  have z1 := HZ.out.cell (i := 1) rfl
  obtain ⟨t0, t1, t2⟩ := HD.out.tieC HT.out
  obtain ⟨e0, e1, e2⟩ := HD.out.endC HE.out
  have ft2 := HD.out.tie.frozen (X * 3 + 2)
  have fe0 := HD.out.endb.frozen (k * 3)
  have fe1 := HD.out.endb.frozen (k * 3 + 1)
  have fe2 := HD.out.endb.frozen (k * 3 + 2)
  obtain ⟨b0, b1, b2⟩ := HD.out.tieC HB.out
  have fb0 := HD.out.tie.frozen (B * 3)
  generalize w.heap.size = zb at *
  go_wp2_with fail
  refine wp_quiet_tail 10 (by kernel_rfl) (by kernel_rfl) ?_
  simp only [List.take_succ_cons, List.take_zero, List.drop_succ_cons, List.drop_zero]
  repeat (go_big_quiet_step (fail))
  refine wpQuiet_nil ?_
  intro m3
  go_wp2_with fail
  go_ret
  have s1 := HD.out.end0 HE.out (B : Int)
  have s2 := (s1.kpN (Kp.drewN No _ m3)).tie0 HB.out (-1)
  have s3 := s2.end2 (at_set HE.out _) (m - 1)
  have s4 := s3.tie2 (by rw [List.getElem?_set_ne hBX]; exact HT.out) (-1)
  rw [List.set_set] at s4
  exact ⟨rfl, s4, (((((HKD.out).trans' (Kp.setCell _ _ _ fun _ => .inr rfl)).trans' (Kp.drewN _ _ _)).trans' (Kp.setCell _ _ _ fun _ => .inl rfl)).trans' (Kp.setCell _ _ _ fun _ => .inr rfl)).trans' (Kp.setCell _ _ _ fun _ => .inl rfl)⟩

set_option maxHeartbeats 1000000 in
theorem drop_nn (p tq eq : Nat) (ties ends : List (Int × Int × Int)) (k X : Nat) (f l m : Int) (hm : 1 ≤ m ∧ m ≤ 64) (ht : ties[X]? = some (-1, -1, (k : Int))) (he : ends[k]? = some (f, l, m)) (w : World) (h : IsQR w p tq eq ties ends) :
    Calls Try.prog 76 #[.pointer (some ⟨p, 0, none⟩), .int .i64 X] w fun e w' => e = .returned (.bool true) ∧ IsQR w' p tq eq (ties.set X (-1, -1, -1)) (ends.set k (-1, -1, m - 1)) ∧ Kp (fun i => i = tq ∨ i = eq) w w' := by
  have H := hid h
  have HT := hid ht
  have HE := hid he
  have c0 := h.head.cell (i := 0) rfl
  have c1 := h.head.cell (i := 1) rfl
  have hlt := h.lt
  have hle := h.le
  have hX : X < ties.length := (List.getElem?_eq_some_iff.1 ht).1
  have hk : k < ends.length := (List.getElem?_eq_some_iff.1 he).1
  obtain ⟨t0, t1, t2⟩ := h.tieC ht
  have hpt := h.pt
  have hpe := h.pe
  have hte := h.te
  have hpt2 := hpt.symm
  have hpe2 := hpe.symm
  have hte2 := hte.symm
  have hp1 := h.head.lt
  have ht1 := h.tie.lt
  have he1 := h.endb.lt
  have hn1 : tq ≠ w.heap.size := by omega
  have hn2 : eq ≠ w.heap.size := by omega
  have hn3 : p ≠ w.heap.size := by omega
  have hn4 := hn1.symm
  have hn5 := hn2.symm
  have hn6 := hn3.symm
  obtain ⟨hm1, hm2⟩ := hm
  clear h ht he
  go_enter Try.func76, Try.ntmps76
  go_wp2_with fail
  refine (in_yes p tq eq ties ends X _ _ k HT.out _ H.out).mono ?_
  rintro e w' ⟨rfl, hw'⟩
  rw [hw']; clear hw' w'
  go_wp2_with fail
  go_region_held3 (fun w' => w'.cell? ⟨p, 0, none⟩ = some (.slice (some ⟨tq, 0, none⟩) ties.length ties.length) ∧ w'.cell? ⟨p, 1, none⟩ = some (.slice (some ⟨eq, 0, none⟩) ends.length ends.length) ∧ w'.cell? ⟨tq, X * 3, none⟩ = some (.int .i64 (-1)) ∧ w'.cell? ⟨tq, X * 3 + 1, none⟩ = some (.int .i64 (-1)) ∧ w'.cell? ⟨tq, X * 3 + 2, none⟩ = some (.int .i64 k)) (go_keep) (fail)
  go_upto_region 5 with (fail)
  have HZ := hid ((Blk.new w 127 [.int .i64 (-1), .int .i64 (-1), .int .i64 k]).kp' (Kp.drew No _))
  have HD := hid (H.out.kpN ((Kp.alloc No w (.cells [Value.int .i64 (-1), .int .i64 (-1), .int .i64 k].toArray 127)).trans' (Kp.drew No _)))
  have HKD := hid ((Kp.alloc (fun i => i = tq ∨ i = eq) w (.cells [Value.int .i64 (-1), .int .i64 (-1), .int .i64 k].toArray 127)).trans' (Kp.drew _ _))
  clear c0 c1 t0 t1 t2 H
  generalize hwd : (w.alloc (.cells [Value.int .i64 (-1), .int .i64 (-1), .int .i64 k].toArray 127)).drew = wd at *
  have hwd2 : (w.alloc (.cells #[Value.int .i64 (-1), .int .i64 (-1), .int .i64 k] 127)).drew = wd := hwd
  try rw [hwd2]
  clear hwd hwd2
  have c0 := HD.out.head.cell (i := 0) rfl
  have c1 := HD.out.head.cell (i := 1) rfl
  have z0 := HZ.out.cell (i := 0) rfl
  have z1 := HZ.out.cell (i := 1) rfl
  obtain ⟨t0, t1, t2⟩ := HD.out.tieC HT.out
  obtain ⟨e0, e1, e2⟩ := HD.out.endC HE.out
  have ft2 := HD.out.tie.frozen (X * 3 + 2)
  have fe0 := HD.out.endb.frozen (k * 3)
  have fe1 := HD.out.endb.frozen (k * 3 + 1)
  have fe2 := HD.out.endb.frozen (k * 3 + 2)
  generalize w.heap.size = zb at *
  go_wp2_with fail
  go_ret
  have s1 := HD.out.end0 HE.out (-1)
  have s2 := s1.end1 (at_set HE.out _) (-1)
  have s3 := s2.end2 (at_set (at_set HE.out _) _) (m - 1)
  have s4 := s3.tie2 HT.out (-1)
  rw [List.set_set, List.set_set] at s4
  exact ⟨rfl, s4, ((((HKD.out).trans' (Kp.setCell _ _ _ fun _ => .inr rfl)).trans' (Kp.setCell _ _ _ fun _ => .inr rfl)).trans' (Kp.setCell _ _ _ fun _ => .inr rfl)).trans' (Kp.setCell _ _ _ fun _ => .inl rfl)⟩

end Go.Proofs.Ytijpdeanbkodkaa
