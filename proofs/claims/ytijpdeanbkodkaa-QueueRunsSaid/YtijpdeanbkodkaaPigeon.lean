/-
  A row of things below n, each but once, has at most n of them. No program is in sight.
-/
import Derived.WalkKit
namespace Go.Proofs.Ytijpdeanbkodkaa

theorem length_le_of_nodup : ∀ (n : Nat) (l : List Int), l.Nodup → (∀ x ∈ l, 0 ≤ x ∧ x < n) → l.length ≤ n
  | 0, l, _, hb => by
    cases l with
    | nil => simp
    | cons x l => have := hb x (by simp); omega
  | n + 1, l, hd, hb => by
    by_cases hm : (n : Int) ∈ l
    · have h1 := length_le_of_nodup n (l.erase (n : Int)) (hd.erase _) fun x hx => by
        have h2 := (hd.mem_erase_iff).1 hx
        have h3 := hb x h2.2
        have : x ≠ n := h2.1
        omega
      rw [List.length_erase_of_mem hm] at h1
      omega
    · have h1 := length_le_of_nodup n l hd fun x hx => by
        have h3 := hb x hx
        have : x ≠ n := fun e => hm (e ▸ hx)
        omega
      omega
end Go.Proofs.Ytijpdeanbkodkaa
