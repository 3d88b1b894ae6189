/-
  A thing comes out of its row.
-/
import Derived.Test.YtijpdeanbkodkaaQueueRow
namespace Go.Proofs.Ytijpdeanbkodkaa
open Go.RowKit
set_option maxRecDepth 100000

theorem dropQ_ok (p tq eq n : Nat) (rows : List (List Int)) (k : Nat) (q : List Int) (x : Int) (s : List Int) (hk : rows[k]? = some (q ++ x :: s)) (w : World) (h : IsQ w p tq eq n rows) :
    Calls Try.prog 76 #[.pointer (some ⟨p, 0, none⟩), .int .i64 x] w fun e w' => e = .returned (.bool true) ∧ IsQ w' p tq eq n (rows.set k (q ++ s)) ∧ Kp (fun i => i = tq ∨ i = eq) w w' := by
  obtain ⟨ties, ends, h1, h2⟩ := h
  obtain ⟨hx, hxn, ht⟩ := h2.ti k q x s hk
  obtain ⟨X, rfl⟩ := Int.eq_ofNat_of_zero_le hx
  have tl := h2.tl
  have tl64 := h1.lt
  have hm := h2.many hk
  have hmm : 1 ≤ ((q ++ (X : Int) :: s).length : Int) ∧ ((q ++ (X : Int) :: s).length : Int) ≤ 64 := by simp only [List.length_append, List.length_cons] at hm ⊢; omega
  have he := h2.en k _ hk
  have hd := h2.drop hk
  have hnd := h2.nd k _ hk
  have hlen : ((q ++ (X : Int) :: s).length : Int) - 1 = ((q ++ s).length : Int) := by simp only [List.length_append, List.length_cons]; omega
  by_cases hq : q = []
  · subst hq
    cases s with
    | nil =>
      refine (drop_nn p tq eq ties ends k X _ _ _ hmm ht he w h1).mono ?_
      rintro e w' ⟨rfl, hi, hk'⟩
      rw [hlen] at hi
      exact ⟨rfl, ⟨_, _, hi, hd⟩, hk'⟩
    | cons b s0 =>
      obtain ⟨b0, bn, bt⟩ := h2.ti k [(X : Int)] b s0 (by rw [hk]; rfl)
      obtain ⟨B, rfl⟩ := Int.eq_ofNat_of_zero_le b0
      have hBX : B ≠ X := fun e => by rw [e] at hnd; simp at hnd
      have he2 : ends[k]? = some (headD ([] ++ (X : Int) :: (B : Int) :: s0), lastD ((B : Int) :: s0), (([] ++ (X : Int) :: (B : Int) :: s0).length : Int)) := by rw [he]; simp only [endOf, lastD_cons [] ((B : Int) :: s0) (X : Int) (by simp)]
      refine (drop_nb p tq eq ties ends k X _ _ _ B _ _ _ bt hBX hmm ht he2 w h1).mono ?_
      rintro e w' ⟨rfl, hi, hk'⟩
      rw [hlen] at hi
      exact ⟨rfl, ⟨_, _, hi, hd⟩, hk'⟩
  · obtain ⟨q0, a, rfl⟩ : ∃ q0 a, q = q0 ++ [a] := ⟨q.dropLast, q.getLast hq, (List.dropLast_concat_getLast hq).symm⟩
    obtain ⟨a0, an, at_⟩ := h2.ti k q0 a ((X : Int) :: s) (by rw [hk]; simp)
    obtain ⟨A, rfl⟩ := Int.eq_ofNat_of_zero_le a0
    have hAX : A ≠ X := fun e => by rw [e] at hnd; simp [List.nodup_append] at hnd
    rw [lastD_snoc] at ht
    cases s with
    | nil =>
      have he2 : ends[k]? = some (headD (q0 ++ [(A : Int)] ++ (X : Int) :: []), lastD (q0 ++ [(A : Int)] ++ (X : Int) :: []), ((q0 ++ [(A : Int)] ++ (X : Int) :: []).length : Int)) := he
      refine (drop_an p tq eq ties ends k X _ _ _ A _ _ _ at_ hAX hmm ht he2 w h1).mono ?_
      rintro e w' ⟨rfl, hi, hk'⟩
      rw [hlen] at hi
      have e1 : dropT ties (q0 ++ [(A : Int)]) (X : Int) [] k = (ties.set A (lastD q0, -1, (k : Int))).set X ((A : Int), -1, -1) := by
        unfold dropT
        rw [linkA_snoc, lastD_snoc]
        rfl
      have e2 : endOf (q0 ++ [(A : Int)] ++ []) = (headD (q0 ++ [(A : Int)] ++ [(X : Int)]), (A : Int), ((q0 ++ [(A : Int)] ++ []).length : Int)) := by
        have e3 : headD (q0 ++ [(A : Int)] ++ [(X : Int)]) = headD (q0 ++ [(A : Int)]) := headD_append _ _ (by simp)
        rw [e3]
        simp only [endOf, List.append_nil, lastD_snoc]
      rw [e1, e2] at hd
      exact ⟨rfl, ⟨_, _, hi, hd⟩, hk'⟩
    | cons b s0 =>
      obtain ⟨b0, bn, bt⟩ := h2.ti k (q0 ++ [(A : Int), (X : Int)]) b s0 (by rw [hk]; simp)
      obtain ⟨B, rfl⟩ := Int.eq_ofNat_of_zero_le b0
      have hBX : B ≠ X := fun e => by rw [e] at hnd; simp [List.nodup_append] at hnd
      have hAB : A ≠ B := fun e => by rw [e] at hnd; simp [List.nodup_append] at hnd
      have bt2 : ties[B]? = some ((X : Int), headD s0, (k : Int)) := by
        have e0 : lastD (q0 ++ [(A : Int), (X : Int)]) = (X : Int) := by rw [show q0 ++ [(A : Int), (X : Int)] = (q0 ++ [(A : Int)]) ++ [(X : Int)] by simp, lastD_snoc]
        rw [e0] at bt
        exact bt
      refine (drop_ab p tq eq ties ends k X _ _ _ A _ _ _ at_ hAX B _ _ _ bt2 hBX hAB hmm ht he w h1).mono ?_
      rintro e w' ⟨rfl, hi, hk'⟩
      rw [hlen] at hi
      have e1 : dropT ties (q0 ++ [(A : Int)]) (X : Int) ((B : Int) :: s0) k = ((ties.set A (lastD q0, (B : Int), (k : Int))).set B ((A : Int), headD s0, (k : Int))).set X ((A : Int), (B : Int), -1) := by
        unfold dropT linkB
        rw [linkA_snoc, lastD_snoc, headD_cons]
        simp only [Int.toNat_natCast]
      have e2 : endOf (q0 ++ [(A : Int)] ++ (B : Int) :: s0) = (headD (q0 ++ [(A : Int)] ++ (X : Int) :: (B : Int) :: s0), lastD (q0 ++ [(A : Int)] ++ (X : Int) :: (B : Int) :: s0), ((q0 ++ [(A : Int)] ++ (B : Int) :: s0).length : Int)) := by
        have e3 : headD (q0 ++ [(A : Int)] ++ (X : Int) :: (B : Int) :: s0) = headD (q0 ++ [(A : Int)]) := headD_append _ _ (by simp)
        have e4 : headD (q0 ++ [(A : Int)] ++ (B : Int) :: s0) = headD (q0 ++ [(A : Int)]) := headD_append _ _ (by simp)
        have e5 : lastD (q0 ++ [(A : Int)] ++ (X : Int) :: (B : Int) :: s0) = lastD ((B : Int) :: s0) := lastD_cons _ _ _ (by simp)
        have e6 : lastD (q0 ++ [(A : Int)] ++ (B : Int) :: s0) = lastD ((B : Int) :: s0) := lastD_append _ _ (by simp)
        simp only [endOf, e3, e4, e5, e6]
      rw [e1, e2] at hd
      exact ⟨rfl, ⟨_, _, hi, hd⟩, hk'⟩
end Go.Proofs.Ytijpdeanbkodkaa
