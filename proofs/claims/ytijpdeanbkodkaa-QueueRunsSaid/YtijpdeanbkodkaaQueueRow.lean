/-
  The contracts of package queue, said of its rows.
-/
import Derived.Test.YtijpdeanbkodkaaQueueNo
import Derived.Test.YtijpdeanbkodkaaQueueList
import Derived.Test.YtijpdeanbkodkaaPigeon
namespace Go.Proofs.Ytijpdeanbkodkaa
open Go.RowKit
set_option maxRecDepth 100000

/-- Queues of n things: their rows. -/
def IsQ (w : World) (p tq eq n : Nat) (rows : List (List Int)) : Prop := ∃ ties ends, IsQR w p tq eq ties ends ∧ QOK n ties ends rows

theorem IsQ.kp {w w' : World} {p tq eq n : Nat} {rows : List (List Int)} {S : Nat → Prop} (h : IsQ w p tq eq n rows) (hk : Kp S w w') (hp : ¬ S p) (ht : ¬ S tq) (he : ¬ S eq) : IsQ w' p tq eq n rows := by
  obtain ⟨ties, ends, h1, h2⟩ := h
  exact ⟨ties, ends, h1.kp hk hp ht he, h2⟩
theorem IsQ.kpN {w w' : World} {p tq eq n : Nat} {rows : List (List Int)} (h : IsQ w p tq eq n rows) (hk : Kp No w w') : IsQ w' p tq eq n rows := h.kp hk id id id

theorem QOK.tie_out {n : Nat} {ties ends : List (Int × Int × Int)} {rows : List (List Int)} (h : QOK n ties ends rows) {x : Int} (hout : ∀ (k : Nat) (l : List Int), rows[k]? = some l → x ∉ l) : x < 0 ∨ (ties.length : Int) ≤ x ∨ ∃ a b, ties[x.toNat]? = some (a, b, -1) := by
  by_cases h0 : x < 0
  · exact .inl h0
  by_cases h1 : (ties.length : Int) ≤ x
  · exact .inr (.inl h1)
  · refine .inr (.inr (h.out x.toNat (by have := h.tl; omega) ?_))
    rwa [show ((x.toNat : Nat) : Int) = x by omega]

theorem inQ_no (p tq eq n : Nat) (rows : List (List Int)) (x : Int) (hout : ∀ (k : Nat) (l : List Int), rows[k]? = some l → x ∉ l) (w : World) (h : IsQ w p tq eq n rows) :
    Calls Try.prog 79 #[.pointer (some ⟨p, 0, none⟩), .int .i64 x] w fun e w' => e = .returned (.tuple #[.int .i64 0, .bool false]) ∧ w' = w := by
  obtain ⟨ties, ends, h1, h2⟩ := h
  exact in_no p tq eq ties ends x (h2.tie_out hout) w h1
theorem inQ_yes (p tq eq n : Nat) (rows : List (List Int)) (x : Int) (k : Nat) (l : List Int) (hk : rows[k]? = some l) (hx : x ∈ l) (w : World) (h : IsQ w p tq eq n rows) :
    Calls Try.prog 79 #[.pointer (some ⟨p, 0, none⟩), .int .i64 x] w fun e w' => e = .returned (.tuple #[.int .i64 k, .bool true]) ∧ w' = w := by
  obtain ⟨ties, ends, h1, h2⟩ := h
  obtain ⟨q, s, _, h0, _, ht⟩ := h2.mem hk hx
  have := in_yes p tq eq ties ends x.toNat _ _ k ht w h1
  rwa [show ((x.toNat : Nat) : Int) = x by omega] at this

theorem dropQ_no (p tq eq n : Nat) (rows : List (List Int)) (x : Int) (hout : ∀ (k : Nat) (l : List Int), rows[k]? = some l → x ∉ l) (w : World) (h : IsQ w p tq eq n rows) :
    Calls Try.prog 76 #[.pointer (some ⟨p, 0, none⟩), .int .i64 x] w fun e w' => e = .returned (.bool false) ∧ w' = w := by
  obtain ⟨ties, ends, h1, h2⟩ := h
  exact drop_no p tq eq ties ends x (h2.tie_out hout) w h1

theorem pushQ_no (p tq eq n : Nat) (rows : List (List Int)) (k x : Int) (hno : (∃ (j : Nat) (l : List Int), rows[j]? = some l ∧ x ∈ l) ∨ k < 0 ∨ rows.length ≤ k ∨ x < 0 ∨ n ≤ x) (w : World) (h : IsQ w p tq eq n rows) :
    Calls Try.prog 72 #[.pointer (some ⟨p, 0, none⟩), .int .i64 k, .int .i64 x] w fun e w' => e = .returned (.bool false) ∧ w' = w := by
  obtain ⟨ties, ends, h1, h2⟩ := h
  by_cases hin : ∃ (j : Nat) (l : List Int), rows[j]? = some l ∧ x ∈ l
  · obtain ⟨j, l, hj, hx⟩ := hin
    obtain ⟨q, s, _, h0, _, ht⟩ := h2.mem hj hx
    have := push_no_in p tq eq ties ends k x.toNat _ _ j ht w h1
    rwa [show ((x.toNat : Nat) : Int) = x by omega] at this
  · have hout : ∀ (k : Nat) (l : List Int), rows[k]? = some l → x ∉ l := fun j l hj hx => hin ⟨j, l, hj, hx⟩
    have el := h2.el
    have tl := h2.tl
    by_cases hk : k < 0 ∨ rows.length ≤ k
    · exact push_no_row p tq eq ties ends k x (h2.tie_out hout) (by omega) w h1
    · refine push_no_thing p tq eq ties ends k x ?_ (by omega) w h1
      rcases hno with hno | hno | hno | hno | hno
      · exact absurd hno hin
      all_goals omega

theorem QOK.many {n : Nat} {ties ends : List (Int × Int × Int)} {rows : List (List Int)} (h : QOK n ties ends rows) {k : Nat} {l : List Int} (hk : rows[k]? = some l) : l.length ≤ n :=
  length_le_of_nodup n l (h.nd k l hk) fun x hx => by
    obtain ⟨_, _, _, h0, h1, _⟩ := h.mem hk hx
    exact ⟨h0, h1⟩

theorem pushQ_ok (p tq eq n : Nat) (rows : List (List Int)) (k : Nat) (l : List Int) (x : Int) (hk : rows[k]? = some l) (hx : 0 ≤ x) (hxn : x < n) (hout : ∀ (j : Nat) (l : List Int), rows[j]? = some l → x ∉ l) (w : World) (h : IsQ w p tq eq n rows) :
    Calls Try.prog 72 #[.pointer (some ⟨p, 0, none⟩), .int .i64 k, .int .i64 x] w fun e w' => e = .returned (.bool true) ∧ IsQ w' p tq eq n (rows.set k (l ++ [x])) ∧ Kp (fun i => i = tq ∨ i = eq) w w' := by
  obtain ⟨ties, ends, h1, h2⟩ := h
  obtain ⟨X, rfl⟩ := Int.eq_ofNat_of_zero_le hx
  have tl := h2.tl
  have tl64 := h1.lt
  have hm := h2.many hk
  obtain ⟨a, b, ht⟩ := h2.out X (by omega) hout
  have he := h2.en k l hk
  by_cases hl : l = []
  · subst hl
    refine (push_nil_any p tq eq ties ends k X (-1) 0 a b (by omega) ht he w h1).mono ?_
    rintro e w' ⟨rfl, hi, hk'⟩
    exact ⟨rfl, ⟨_, _, hi, h2.push_nil hk hx hxn hout⟩, hk'⟩
  · obtain ⟨l0, y, rfl⟩ : ∃ l0 y, l = l0 ++ [y] := ⟨l.dropLast, l.getLast hl, (List.dropLast_concat_getLast hl).symm⟩
    obtain ⟨y0, yn, yt⟩ := h2.ti k l0 y [] hk
    obtain ⟨Y, rfl⟩ := Int.eq_ofNat_of_zero_le y0
    have hxy : X ≠ Y := fun e => hout k _ hk (by rw [e]; simp)
    have he2 : ends[k]? = some (headD (l0 ++ [(Y : Int)]), (Y : Int), ((l0 ++ [(Y : Int)]).length : Int)) := by rw [he]; simp only [endOf, lastD_snoc]
    refine (push_snoc_any p tq eq ties ends k X Y _ _ a b (lastD l0) (-1) k (by omega) ht yt hxy he2 w h1).mono ?_
    rintro e w' ⟨rfl, hi, hk'⟩
    have h3 := h2.push_snoc hk hx hxn hout
    have e1 : endOf (l0 ++ [(Y : Int)] ++ [(X : Int)]) = (headD (l0 ++ [(Y : Int)]), (X : Int), ((l0 ++ [(Y : Int)]).length : Int) + 1) := by
      have e2 : ((l0 ++ [(Y : Int)] ++ [(X : Int)]).length : Int) = ((l0 ++ [(Y : Int)]).length : Int) + 1 := by simp only [List.length_append, List.length_cons, List.length_nil]; omega
      have e3 : headD (l0 ++ [(Y : Int)] ++ [(X : Int)]) = headD (l0 ++ [(Y : Int)]) := headD_append _ _ (by simp)
      simp only [endOf, lastD_snoc, e2, e3]
    rw [e1] at h3
    exact ⟨rfl, ⟨_, _, hi, h3⟩, hk'⟩
end Go.Proofs.Ytijpdeanbkodkaa
