/-
  Plain facts on a ring of places: no program is in sight.
-/
import Derived.WalkKit
namespace Go.Proofs.Ytijpdeanbkodkaa

/-- The place i behind place a, of R. -/
def ix (R a i : Nat) : Nat := if a + i < R then a + i else a + i - R

/-- Places ls, of R, hold the row from place f on; the next one comes to place t. -/
structure RingOK (R : Nat) (ls : List Int) (f t : Nat) (row : List Int) : Prop where
  len : ls.length = R
  le : row.length ≤ R
  zero : R = 0 → f = 0 ∧ t = 0
  lt : 0 < R → f < R ∧ t < R ∧ t = ix R f row.length
  at_ : ∀ i, i < row.length → ls[ix R f i]?.getD 0 = row[i]?.getD 0

theorem ix_lt {R a i : Nat} (ha : a < R) (hi : i ≤ R) : ix R a i < R := by unfold ix; split <;> omega
theorem ix_zero {R a : Nat} (ha : a < R) : ix R a 0 = a := by unfold ix; split <;> omega
theorem ix_inj {R a i j : Nat} (_ha : a < R) (hi : i < R) (hj : j < R) (h : ix R a i = ix R a j) : i = j := by
  unfold ix at h; split at h <;> split at h <;> omega
theorem ix_succ {R a i : Nat} (ha : a < R) (hi : i < R) : ix R (ix R a 1) i = ix R a (i + 1) := by
  unfold ix; repeat' split
  all_goals omega
theorem ix_next {R a i : Nat} (_ha : a < R) (hi : i < R) : ix R (ix R a i) 1 = ix R a (i + 1) := by
  unfold ix; repeat' split
  all_goals omega
/-- The next place, as the code has it. -/
theorem ix_one {R a : Nat} (ha : a < R) : ix R a 1 = if a + 1 = R then 0 else a + 1 := by
  unfold ix; repeat' split
  all_goals omega
theorem ix_full {R a : Nat} (_ha : a < R) : ix R a R = a := by unfold ix; split <;> omega

theorem RingOK.new (R : Nat) : RingOK R (List.replicate R 0) 0 0 [] :=
  ⟨by simp, Nat.zero_le _, fun _ => ⟨rfl, rfl⟩, fun h => ⟨h, h, (ix_zero h).symm⟩, fun i h => by simp at h⟩

theorem RingOK.put {R : Nat} {ls : List Int} {f t : Nat} {row : List Int} (h : RingOK R ls f t row) (hr : row.length < R) (v : Int) :
    t < R ∧ RingOK R (ls.set t v) f (ix R t 1) (row ++ [v]) := by
  obtain ⟨hf, ht, htm⟩ := h.lt (by omega)
  refine ⟨ht, ⟨by simp [h.len], by simp; omega, fun e => by omega, fun _ => ⟨hf, ix_lt ht (by omega), ?_⟩, fun i hi => ?_⟩⟩
  · rw [htm, ix_next hf hr]; simp
  · simp only [List.length_append, List.length_cons, List.length_nil] at hi
    by_cases hl : i < row.length
    · have hne : t ≠ ix R f i := fun e => by rw [htm] at e; have := ix_inj hf hr (by omega) e; omega
      rw [List.getElem?_set_ne hne, h.at_ i hl, List.getElem?_append_left hl]
    · have : i = row.length := by omega
      subst this
      rw [← htm]
      simp [h.len, ht]

theorem RingOK.head {R : Nat} {ls : List Int} {f t : Nat} {x : Int} {row : List Int} (h : RingOK R ls f t (x :: row)) : f < R ∧ ls[f]?.getD 0 = x := by
  have hl := h.le
  simp at hl
  obtain ⟨hf, _, _⟩ := h.lt (by omega)
  have := h.at_ 0 (by simp)
  rw [ix_zero hf] at this
  exact ⟨hf, by simpa using this⟩

theorem RingOK.get {R : Nat} {ls : List Int} {f t : Nat} {x : Int} {row : List Int} (h : RingOK R ls f t (x :: row)) : RingOK R (ls.set f 0) (ix R f 1) t row := by
  have hl := h.le
  simp at hl
  obtain ⟨hf, ht, htm⟩ := h.lt (by omega)
  refine ⟨by simp [h.len], by omega, fun e => by omega, fun _ => ⟨ix_lt hf (by omega), ht, ?_⟩, fun i hi => ?_⟩
  · rw [htm, ix_succ hf (by omega)]; simp
  · rw [ix_succ hf (by omega)]
    have hne : f ≠ ix R f (i + 1) := fun e => by
      have : ix R f 0 = ix R f (i + 1) := by rw [ix_zero hf]; exact e
      have := ix_inj hf (by omega) (by omega) this
      omega
    rw [List.getElem?_set_ne hne, h.at_ (i + 1) (by simp; omega)]
    simp

theorem RingOK.pass {R : Nat} {ls : List Int} {f t : Nat} {x : Int} {row : List Int} (h : RingOK R ls f t (x :: row)) (hr : (x :: row).length = R) (v : Int) : RingOK R (ls.set f v) (ix R f 1) (ix R f 1) (row ++ [v]) := by
  simp only [List.length_cons] at hr
  obtain ⟨hf, ht, htm⟩ := h.lt (by omega)
  have h1 : ix R f 1 < R := ix_lt hf (by omega)
  refine ⟨by simp [h.len], by simp; omega, fun e => by omega, fun _ => ⟨h1, h1, ?_⟩, fun i hi => ?_⟩
  · have : (row ++ [v]).length = R := by simp; omega
    rw [this, ix_full h1]
  · simp only [List.length_append, List.length_cons, List.length_nil] at hi
    rw [ix_succ hf (by omega)]
    by_cases hl : i < row.length
    · have hne : f ≠ ix R f (i + 1) := fun e => by
        have : ix R f 0 = ix R f (i + 1) := by rw [ix_zero hf]; exact e
        have := ix_inj hf (by omega) (by omega) this
        omega
      rw [List.getElem?_set_ne hne, h.at_ (i + 1) (by simp; omega), List.getElem?_append_left hl]
      simp
    · have : i = row.length := by omega
      subst this
      rw [hr, ix_full hf]
      simp [h.len, hf]
#print axioms RingOK.pass
end Go.Proofs.Ytijpdeanbkodkaa
