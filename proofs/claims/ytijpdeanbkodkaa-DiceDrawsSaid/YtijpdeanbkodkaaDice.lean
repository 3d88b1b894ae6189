/-
  The contracts of package dice and of its reference: what each function answers, and what becomes of a Dice.
-/
import Derived.Test.YtijpdeanbkodkaaRows
import Derived.Test.YtijpdeanbkodkaaLib
import Derived.Test.YtijpdeanbkodkaaTail
namespace Go.Proofs.Ytijpdeanbkodkaa
open Go.RowKit

theorem wf_u16 {l : List Int} (h : ∀ n ∈ l, (Lit.int IntKind.u16 n).wf = true) : ∀ x ∈ l, 0 ≤ x ∧ x < 65536 := fun x hx => by
  have := h x hx
  simp [Lit.wf, IntKind.min, IntKind.max, IntKind.bits, IntKind.signed] at this
  omega

/-- A Dice at block d: its list l stands in block q; k of it are drawn. -/
structure IsDice (w : World) (d q : Nat) (l : List Int) (k : Nat) : Prop where
  head : Blk w d 109 [.slice (some ⟨q, 0, none⟩) l.length l.length, .int .i64 k]
  row : Blk w q 32 (l.map (Value.int .u16))
  le : k ≤ l.length
  small : l.length ≤ 100000000000000
  wf : ∀ x ∈ l, 0 ≤ x ∧ x < 65536

theorem IsDice.kp {w w' : World} {d q : Nat} {l : List Int} {k : Nat} {S : Nat → Prop} (h : IsDice w d q l k) (hk : Kp S w w') (hd : ¬ S d) (hq : ¬ S q) : IsDice w' d q l k :=
  ⟨hk.blk h.head hd, hk.blk h.row hq, h.le, h.small, h.wf⟩
theorem IsDice.ne {w : World} {d q : Nat} {l : List Int} {k : Nat} (h : IsDice w d q l k) : d ≠ q := h.head.ne h.row (by decide)
theorem IsDice.at_ {w : World} {d q : Nat} {l : List Int} {k : Nat} (h : IsDice w d q l k) (n : Nat) (hn : n ≤ l.length) : IsDice (w.setCell ⟨d, 1, none⟩ (.int .i64 n)) d q l n :=
  ⟨h.head.set 1 _, (Kp.setCell (S := (· = d)) w ⟨d, 1, none⟩ _ (fun _ => rfl)).blk h.row (fun e => h.ne e.symm), hn, h.small, h.wf⟩

set_option maxHeartbeats 400000 in
theorem left_any (d q : Nat) (l : List Int) (k : Nat) (w : World) (h : IsDice w d q l k) :
    Calls Try.prog 20 #[.pointer (some ⟨d, 0, none⟩)] w fun e w' => e = .returned (.int .i64 ((l.length : Int) - k)) ∧ ∃ m, w' = w.drewN m := by
  have c0 := h.head.cell (i := 0) rfl
  have c1 := h.head.cell (i := 1) rfl
  have hs := h.small
  have hle := h.le
  clear h
  go_enter Try.func20, Try.ntmps20
  go_wp2
  go_quiet (fail)
  go_wp2
  go_ret
  exact ⟨rfl, _, rfl⟩

set_option maxHeartbeats 400000 in
theorem drawn_any (d q : Nat) (l : List Int) (k : Nat) (w : World) (h : IsDice w d q l k) :
    Calls Try.prog 19 #[.pointer (some ⟨d, 0, none⟩)] w fun e w' => e = .returned (.int .i64 k) ∧ w' = w := by
  have c1 := h.head.cell (i := 1) rfl
  clear h
  go_enter Try.func19, Try.ntmps19
  go_wp2
  go_ret
  exact ⟨rfl, rfl⟩

/-- What a draw answers, and how many are drawn behind it. -/
def drawX (l : List Int) (k : Nat) (n : Int) : Int := if n < 1 ∨ l.length ≤ k then 0 else l[k]?.getD 0 % n
def drawK (l : List Int) (k : Nat) (n : Int) : Nat := if n < 1 ∨ l.length ≤ k then k else k + 1
theorem drawX_le (l : List Int) (k : Nat) (n : Int) (hl : ∀ x ∈ l, 0 ≤ x ∧ x < 65536) : 0 ≤ drawX l k n ∧ (0 < n → drawX l k n < n) ∧ (n < 1 → drawX l k n = 0) := by
  unfold drawX
  split
  · exact ⟨by omega, by omega, fun _ => rfl⟩
  · rename_i h
    have hx := hl (l[k]?.getD 0) (by simp [show k < l.length by omega])
    generalize l[k]?.getD 0 = x at *
    exact ⟨Int.emod_nonneg _ (by omega), fun hn => Int.emod_lt_of_pos _ hn, fun hn => by omega⟩

set_option maxHeartbeats 400000 in
theorem draw_any (d q : Nat) (l : List Int) (k : Nat) (n : Int) (w : World) (h : IsDice w d q l k) :
    Calls Try.prog 18 #[.pointer (some ⟨d, 0, none⟩), .int .i64 n] w fun e w' => e = .returned (.int .i64 (drawX l k n)) ∧ IsDice w' d q l (drawK l k n) ∧ Kp (· = d) w w' := by
  by_cases h1 : n < 1
  · have e1 : drawX l k n = 0 := if_pos (.inl h1)
    have e2 : drawK l k n = k := if_pos (.inl h1)
    rw [e1, e2]
    have H := hid h
    clear h e1 e2
    go_enter Try.func18, Try.ntmps18
    go_wp2
    go_ret
    exact ⟨rfl, H.out, Kp.refl _ _⟩
  · by_cases h2 : l.length ≤ k
    · have e1 : drawX l k n = 0 := if_pos (.inr h2)
      have e2 : drawK l k n = k := if_pos (.inr h2)
      rw [e1, e2]
      have h3 := h.le
      have H := hid h
      have hz : (((l.length : Int) - k) == 0) = true := by simp; omega
      clear h e1 e2 h2
      go_enter Try.func18, Try.ntmps18
      go_wp2_with (go_at_call 20; refine (left_any d q l k _ H.out).mono ?_; rintro e w' ⟨rfl, m, rfl⟩)
      go_ret
      exact ⟨rfl, H.out.kp (Kp.drewN No _ _) id id, Kp.drewN _ _ _⟩
    · have e1 : drawX l k n = l[k]?.getD 0 % n := if_neg (by omega)
      have e2 : drawK l k n = k + 1 := if_neg (by omega)
      rw [e1, e2]
      have h3 := h.le
      have h5 : k < l.length := by omega
      have h6 := h.small
      have hz : (((l.length : Int) - k) == 0) = false := by simp; omega
      have c0 := h.head.cell (i := 0) rfl
      have c1 := h.head.cell (i := 1) rfl
      have f1 := h.head.frozen 1
      have cq := h.row.cell (i := k) (v := .int .u16 (l[k]?.getD 0)) (by simp [h5])
      have hx := h.wf (l[k]?.getD 0) (by simp [h5])
      have H := hid h
      generalize l[k]?.getD 0 = x at *
      obtain ⟨hx0, hx1⟩ := hx
      clear h e1 e2 h2
      go_enter Try.func18, Try.ntmps18
      go_wp2_with (go_at_call 20; refine (left_any d q l k _ H.out).mono ?_; rintro e w' ⟨rfl, m, rfl⟩)
      go_quiet (fail)
      go_wp2
      go_ret
      exact ⟨rfl, (H.out.kp (Kp.drewN No _ _) id id).at_ (k + 1) h5, (Kp.drewN _ _ _).trans' (Kp.setCell _ _ _ fun _ => rfl)⟩

theorem el22 : Elem Try.prog 22 32 [.int .u16 0] 2 := Elem.of Try.underlying22 (by kernel_rfl : (Try.prog.info? 32).map (fun i => (i.zero, i.size, i.bytes)) = some (some (.int .u16 0), 1, 2)) rfl (by decide)

set_option maxRecDepth 100000 in
set_option maxHeartbeats 400000 in
theorem new_any (ao : Option Addr) (n c : Nat) (l : List Int) (w : World) (h : Src w .u16 ao n l) (hn : n ≤ 100000000000000) (hl : ∀ x ∈ l, 0 ≤ x ∧ x < 65536) :
    Calls Try.prog 16 #[.slice ao n c] w fun e w' => ∃ d q, e = .returned (.pointer (some ⟨d, 0, none⟩)) ∧ IsDice w' d q l 0 ∧ Kp No w w' ∧ w.heap.size ≤ d ∧ w.heap.size ≤ q := by
  have hll := h.1
  have H := hid h
  have HL := hid hl
  have HN := hid hll
  have HB := hid hn
  clear h hll hl hn
  go_enter Try.func16, Try.ntmps16
  go_wp2_with (first | (at_make; refine wpl_make rfl _ _ 22 rfl el22 .i64 .i64 n rfl rfl (by have := HB.out; omega) (by have := HB.out; omega) ?_; intro w1 hb1 hk1; have hb1' := hid hb1; have hk1' := hid hk1; have hs1 := hb1.lt; clear hb1 hk1) | (with_reducible refine wpl_copy (o := ⟨some 14, _, _, _, _, _⟩) rfl (.tmp 12) (.tmp 13) 22 22 rfl el22 w.heap.size n n ao n c rfl rfl 32 (reps n [.int .u16 0]) ((Kp.alloc No _ _).blk hb1'.out id) (l.map (Value.int .u16)) (by simp [HN.out]) (H.out.kp (hk1'.out.trans' (Kp.alloc _ _ _)) (fun _ _ => id)).ints (by simp [HN.out, length_reps]) (ints_oneCell _ _) ?_; intro w2 hb2 hk2; have hb2' := hid hb2; have hk2' := hid hk2; clear hb2 hk2))
  go_ret
  refine ⟨w1.heap.size, w.heap.size, rfl, ⟨?_, ?_, Nat.zero_le _, ?_, HL.out⟩, ?_, by omega, Nat.le_refl _⟩
  · have := hk2'.out.blk (Blk.new w1 109 [.slice (some ⟨w.heap.size, 0, none⟩) n n, .int .i64 0]) (by omega)
    rw [HN.out]; exact this
  · have := hb2'.out
    rw [List.drop_eq_nil_of_le (by simp [HN.out, length_reps]), List.append_nil] at this
    exact this
  · rw [HN.out]; exact HB.out
  · exact ((hk1'.out.trans' (Kp.alloc No _ _)).trans hk2'.out (by intro i hi he; omega))

theorem draw_to (d q : Nat) (l : List Int) (k : Nat) (n x : Int) (k' : Nat) (hx : drawX l k n = x) (hk : drawK l k n = k') (w : World) (h : IsDice w d q l k) :
    Calls Try.prog 18 #[.pointer (some ⟨d, 0, none⟩), .int .i64 n] w fun e w' => e = .returned (.int .i64 x) ∧ IsDice w' d q l k' ∧ Kp (· = d) w w' := by
  subst hx hk
  exact draw_any d q l k n w h

set_option maxHeartbeats 400000 in
theorem alive_any (w : World) : Calls Try.prog 15 #[] w fun e w' => e = .returned (.bool true) ∧ Kp No w w' := by
  go_enter Try.func15, Try.ntmps15
  go_wp2_with fail
  refine (new_any _ 2 2 [7, 9] _ (Src.of_blk (Blk.new w 32 [.int .u16 7, .int .u16 9])) (by decide) (by decide)).mono ?_
  rintro e w1 ⟨d, q, rfl, h, hk, hd, hq⟩
  have HK := hid ((Kp.alloc No w _).trans' hk)
  have hd : w.heap.size < d := Nat.lt_of_succ_le (by simpa using hd)
  clear hk hq
  go_wp2_with fail
  refine (draw_to d q [7, 9] 0 5 2 1 rfl rfl _ h).mono ?_
  rintro e w2 ⟨rfl, h, hk⟩
  have HK := hid (HK.out.trans hk (by intro i hi he; omega))
  clear hk
  go_wp2_with fail
  refine (draw_to d q [7, 9] 1 5 4 2 rfl rfl _ h).mono ?_
  rintro e w3 ⟨rfl, h, hk⟩
  have HK := hid (HK.out.trans hk (by intro i hi he; omega))
  clear hk
  go_wp2_with fail
  refine (draw_to d q [7, 9] 2 5 0 2 rfl rfl _ h).mono ?_
  rintro e w4 ⟨rfl, h, hk⟩
  have HK := hid (HK.out.trans hk (by intro i hi he; omega))
  clear hk
  go_wp2_with fail
  refine (drawn_any d q [7, 9] 2 _ h).mono ?_
  rintro e w5 ⟨rfl, rfl⟩
  go_wp2_with fail
  go_ret
  exact ⟨rfl, HK.out⟩

/-- How many are drawn behind a skip. -/
def skipK (n : Nat) (k : Nat) (s : Int) : Nat := if s ≤ 0 then k else if (n : Int) - k ≤ s then n else k + s.toNat

set_option maxHeartbeats 400000 in
theorem skip_any (d q : Nat) (l : List Int) (k : Nat) (s : Int) (w : World) (h : IsDice w d q l k) :
    Calls Try.prog 21 #[.pointer (some ⟨d, 0, none⟩), .int .i64 s] w fun e w' => e = .returned (.tuple #[]) ∧ IsDice w' d q l (skipK l.length k s) ∧ Kp (· = d) w w' := by
  have c1 := h.head.cell (i := 1) rfl
  have f1 := h.head.frozen 1
  have h3 := h.le
  have h6 := h.small
  have H := hid h
  clear h
  obtain ⟨n, hn⟩ : ∃ n : Nat, n = skipK l.length k s := ⟨_, rfl⟩
  have hn1 : n ≤ l.length := by rw [hn]; unfold skipK; split <;> (try split) <;> omega
  rw [← hn]
  by_cases hs0 : s < 0
  · have hx : (n : Int) = k := by rw [hn]; unfold skipK; rw [if_pos (by omega)]
    have X := hid hx
    clear hx hn
    go_enter Try.func21, Try.ntmps21
    go_wp2
    refine wp_quiet_tail 12 (by kernel_rfl) (by kernel_rfl) ?_
    simp only [List.take_succ_cons, List.take_zero, List.drop_succ_cons, List.drop_zero]
    repeat (go_big_quiet_step (((go_at_call 20; exact Calls.quiet_of (left_any d q l k _ (H.out.kp (Kp.drewN No _ _) id id))))))
    refine wpQuiet_nil ?_
    intro m
    go_wp2
    go_end0
    have h := (H.out.kp (Kp.drewN No _ m) id id).at_ n hn1
    rw [X.out] at h
    exact ⟨rfl, h, (Kp.drewN _ _ _).trans' (Kp.setCell _ _ _ fun _ => rfl)⟩
  by_cases hs1 : (l.length : Int) - k < s
  · have hx : (n : Int) = k + (l.length - k) := by rw [hn]; unfold skipK; split <;> (try split) <;> omega
    have X := hid hx
    clear hx hn
    go_enter Try.func21, Try.ntmps21
    go_wp2
    refine wp_quiet_tail 12 (by kernel_rfl) (by kernel_rfl) ?_
    simp only [List.take_succ_cons, List.take_zero, List.drop_succ_cons, List.drop_zero]
    repeat (go_big_quiet_step (((go_at_call 20; exact Calls.quiet_of (left_any d q l k _ (H.out.kp (Kp.drewN No _ _) id id))))))
    refine wpQuiet_nil ?_
    intro m
    go_wp2
    go_end0
    have h := (H.out.kp (Kp.drewN No _ m) id id).at_ n hn1
    rw [X.out] at h
    exact ⟨rfl, h, (Kp.drewN _ _ _).trans' (Kp.setCell _ _ _ fun _ => rfl)⟩
  · have hx : (n : Int) = k + s := by rw [hn]; unfold skipK; split <;> (try split) <;> omega
    have X := hid hx
    clear hx hn
    go_enter Try.func21, Try.ntmps21
    go_wp2
    refine wp_quiet_tail 12 (by kernel_rfl) (by kernel_rfl) ?_
    simp only [List.take_succ_cons, List.take_zero, List.drop_succ_cons, List.drop_zero]
    repeat (go_big_quiet_step (((go_at_call 20; exact Calls.quiet_of (left_any d q l k _ (H.out.kp (Kp.drewN No _ _) id id))))))
    refine wpQuiet_nil ?_
    intro m
    go_wp2
    go_end0
    have h := (H.out.kp (Kp.drewN No _ m) id id).at_ n hn1
    rw [X.out] at h
    exact ⟨rfl, h, (Kp.drewN _ _ _).trans' (Kp.setCell _ _ _ fun _ => rfl)⟩

set_option maxHeartbeats 400000 in
theorem refDraw_any (ao : Option Addr) (n c : Nat) (l : List Int) (k : Nat) (m : Int) (w : World) (h : Src w .u16 ao n l) (hn : n ≤ 100000000000000) (hl : ∀ x ∈ l, 0 ≤ x ∧ x < 65536) (hk : k ≤ n) :
    Calls Try.prog 17 #[.slice ao n c, .int .i64 k, .int .i64 m] w fun e w' => e = .returned (.tuple #[.int .i64 (drawX l k m), .int .i64 (drawK l k m)]) ∧ w = w' := by
  have hll := h.1
  by_cases h1 : m < 1
  · have e1 : drawX l k m = 0 := if_pos (.inl h1)
    have e2 : drawK l k m = k := if_pos (.inl h1)
    rw [e1, e2]
    clear h hl e1 e2 hll
    go_enter Try.func17, Try.ntmps17
    go_wp2
    go_ret2
    exact ⟨rfl, rfl⟩
  · by_cases h2 : n ≤ k
    · have e1 : drawX l k m = 0 := if_pos (.inr (by omega))
      have e2 : drawK l k m = k := if_pos (.inr (by omega))
      rw [e1, e2]
      clear h hl e1 e2 hll
      go_enter Try.func17, Try.ntmps17
      go_wp2
      go_ret2
      exact ⟨rfl, rfl⟩
    · have e1 : drawX l k m = l[k]?.getD 0 % m := if_neg (by omega)
      have e2 : drawK l k m = k + 1 := if_neg (by omega)
      rw [e1, e2]
      obtain ⟨ad, rfl, hc⟩ := h.cellN k (by omega)
      have hx := hl (l[k]?.getD 0) (by simp [show k < l.length by omega])
      generalize l[k]?.getD 0 = x at *
      obtain ⟨hx0, hx1⟩ := hx
      clear h hl e1 e2 hll
      go_enter Try.func17, Try.ntmps17
      go_wp2
      go_ret2
      exact ⟨rfl, rfl⟩

end Go.Proofs.Ytijpdeanbkodkaa
