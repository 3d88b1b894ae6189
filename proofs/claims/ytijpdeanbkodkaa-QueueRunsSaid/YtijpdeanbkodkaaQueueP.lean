/-
  Plain facts on things in rows, tied one to the next: no program is in sight.
-/
import Derived.WalkKit
namespace Go.Proofs.Ytijpdeanbkodkaa

/-- The last one of a row, the first one: -1 where there is none. -/
def lastD (l : List Int) : Int := l.getLast?.getD (-1)
def headD (l : List Int) : Int := l.head?.getD (-1)
def endOf (l : List Int) : Int × Int × Int := (headD l, lastD l, (l.length : Int))

theorem lastD_nil : lastD [] = -1 := rfl
theorem lastD_snoc (l : List Int) (x : Int) : lastD (l ++ [x]) = x := by simp [lastD]
theorem lastD_cons (p q : List Int) (x : Int) (hq : q ≠ []) : lastD (p ++ x :: q) = lastD q := by
  obtain ⟨q0, y, rfl⟩ : ∃ q0 y, q = q0 ++ [y] := ⟨q.dropLast, q.getLast hq, (List.dropLast_concat_getLast hq).symm⟩
  rw [show p ++ x :: (q0 ++ [y]) = (p ++ x :: q0) ++ [y] by simp, lastD_snoc, lastD_snoc]
theorem lastD_append (p q : List Int) (hq : q ≠ []) : lastD (p ++ q) = lastD q := by
  obtain ⟨q0, y, rfl⟩ : ∃ q0 y, q = q0 ++ [y] := ⟨q.dropLast, q.getLast hq, (List.dropLast_concat_getLast hq).symm⟩
  rw [← List.append_assoc, lastD_snoc, lastD_snoc]
theorem headD_nil : headD [] = -1 := rfl
theorem headD_cons (x : Int) (l : List Int) : headD (x :: l) = x := rfl
theorem headD_append (p q : List Int) (hp : p ≠ []) : headD (p ++ q) = headD p := by
  cases p with
  | nil => exact absurd rfl hp
  | cons x p => rfl

/-- Ties (ahead, behind, in) and ends (first, last, many) that hold these rows of things below n. -/
structure QOK (n : Nat) (ties ends : List (Int × Int × Int)) (rows : List (List Int)) : Prop where
  tl : ties.length = n
  el : ends.length = rows.length
  en : ∀ (k : Nat) (l : List Int), rows[k]? = some l → ends[k]? = some (endOf l)
  nd : ∀ (k : Nat) (l : List Int), rows[k]? = some l → l.Nodup
  ti : ∀ (k : Nat) (p : List Int) (x : Int) (s : List Int), rows[k]? = some (p ++ x :: s) → 0 ≤ x ∧ x < n ∧ ties[x.toNat]? = some (lastD p, headD s, (k : Int))
  out : ∀ x : Nat, x < n → (∀ (k : Nat) (l : List Int), rows[k]? = some l → (x : Int) ∉ l) → ∃ a b, ties[x]? = some (a, b, -1)

theorem rep {m k : Nat} {l : List Int} (h : (List.replicate m ([] : List Int))[k]? = some l) : k < m ∧ l = [] := by
  obtain ⟨hk, e⟩ := List.getElem?_eq_some_iff.1 h
  simp at hk e
  exact ⟨hk, e⟩
theorem QOK.new (n m : Nat) : QOK n (List.replicate n (0, 0, -1)) (List.replicate m (-1, -1, 0)) (List.replicate m []) := by
  refine ⟨by simp, by simp, fun k l h => ?_, fun k l h => ?_, fun k p x s h => ?_, fun x hx _ => ⟨0, 0, by simp [hx]⟩⟩
  · have h0 := rep h
    obtain ⟨hk, rfl⟩ := h0
    simp [hk, endOf, headD, lastD]
  · obtain ⟨hk, rfl⟩ := rep h
    exact List.nodup_nil
  · obtain ⟨hk, e⟩ := rep h
    simp at e

theorem QOK.mem {n : Nat} {ties ends : List (Int × Int × Int)} {rows : List (List Int)} (h : QOK n ties ends rows) {k : Nat} {l : List Int} (hk : rows[k]? = some l) {x : Int} (hx : x ∈ l) :
    ∃ p s, l = p ++ x :: s ∧ 0 ≤ x ∧ x < n ∧ ties[x.toNat]? = some (lastD p, headD s, (k : Int)) := by
  obtain ⟨p, s, rfl⟩ := List.append_of_mem hx
  exact ⟨p, s, rfl, h.ti k p x s hk⟩
theorem QOK.sep {n : Nat} {ties ends : List (Int × Int × Int)} {rows : List (List Int)} (h : QOK n ties ends rows) {k j : Nat} {l m : List Int} (hk : rows[k]? = some l) (hj : rows[j]? = some m) {x : Int} (hx : x ∈ l) (hy : x ∈ m) : k = j := by
  obtain ⟨_, _, _, _, _, h1⟩ := h.mem hk hx
  obtain ⟨_, _, _, _, _, h2⟩ := h.mem hj hy
  rw [h1] at h2
  simp at h2
  omega
/-- Is a thing in a row: the tie tells. -/
theorem QOK.in_iff {n : Nat} {ties ends : List (Int × Int × Int)} {rows : List (List Int)} (h : QOK n ties ends rows) {x : Nat} (hx : x < n) {a b c : Int} (ht : ties[x]? = some (a, b, c)) :
    (c = -1 ∧ ∀ (k : Nat) (l : List Int), rows[k]? = some l → (x : Int) ∉ l) ∨ (∃ (k : Nat) (p s : List Int), c = k ∧ rows[k]? = some (p ++ (x : Int) :: s) ∧ a = lastD p ∧ b = headD s) := by
  by_cases hin : ∃ (k : Nat) (l : List Int), rows[k]? = some l ∧ (x : Int) ∈ l
  · obtain ⟨k, l, hk, hm⟩ := hin
    obtain ⟨p, s, rfl, _, _, h1⟩ := h.mem hk hm
    rw [show ((x : Int)).toNat = x by simp, ht] at h1
    simp at h1
    exact .inr ⟨k, p, s, h1.2.2, hk, h1.1, h1.2.1⟩
  · have hno : ∀ (k : Nat) (l : List Int), rows[k]? = some l → (x : Int) ∉ l := fun k l hk hm => hin ⟨k, l, hk, hm⟩
    obtain ⟨a', b', h1⟩ := h.out x hx hno
    rw [ht] at h1
    simp at h1
    exact .inl ⟨h1.2.2, hno⟩

theorem set_other {α : Type} {l : List α} {x y : Int} (hx : 0 ≤ x) (hy : 0 ≤ y) (hne : x ≠ y) (v : α) : (l.set x.toNat v)[y.toNat]? = l[y.toNat]? :=
  List.getElem?_set_ne (by omega)
theorem set_self {α : Type} {l : List α} {x : Int} (hx : 0 ≤ x) {n : Nat} (hn : l.length = n) (h : x < n) (v : α) : (l.set x.toNat v)[x.toNat]? = some v := by
  rw [List.getElem?_set_self (by omega)]

/-- A thing comes behind an empty row. -/
theorem QOK.push_nil {n : Nat} {ties ends : List (Int × Int × Int)} {rows : List (List Int)} (h : QOK n ties ends rows) {k : Nat} (hk : rows[k]? = some []) {x : Int} (hx : 0 ≤ x) (hxn : x < n) (hout : ∀ (j : Nat) (l : List Int), rows[j]? = some l → x ∉ l) :
    QOK n (ties.set x.toNat (-1, -1, (k : Int))) (ends.set k (x, x, 1)) (rows.set k [x]) := by
  have hkl : k < rows.length := (List.getElem?_eq_some_iff.1 hk).1
  refine ⟨by simp [h.tl], by simp [h.el], fun j l hj => ?_, fun j l hj => ?_, fun j p z s hj => ?_, fun z hz hno => ?_⟩
  · by_cases e : k = j
    · subst e
      rw [List.getElem?_set_self hkl] at hj
      cases hj
      rw [List.getElem?_set_self (by rw [h.el]; exact hkl)]
      rfl
    · rw [List.getElem?_set_ne e] at hj ⊢
      exact h.en j l hj
  · by_cases e : k = j
    · subst e
      rw [List.getElem?_set_self hkl] at hj
      cases hj
      simp
    · rw [List.getElem?_set_ne e] at hj
      exact h.nd j l hj
  · by_cases e : k = j
    · subst e
      rw [List.getElem?_set_self hkl] at hj
      have h1 : [x] = p ++ z :: s := by simpa using hj
      cases p with
      | nil =>
        simp at h1
        obtain ⟨rfl, rfl⟩ := h1
        exact ⟨hx, hxn, set_self hx h.tl hxn _⟩
      | cons y p => simp at h1
    · rw [List.getElem?_set_ne e] at hj
      obtain ⟨h1, h2, h3⟩ := h.ti j p z s hj
      have hne : x ≠ z := fun e => hout j _ hj (by rw [e]; simp)
      exact ⟨h1, h2, by rw [set_other hx h1 hne]; exact h3⟩
  · have hne : (x : Int) ≠ (z : Int) := fun e => hno k [x] (List.getElem?_set_self hkl) (by rw [e]; simp)
    obtain ⟨a, b, h1⟩ := h.out z hz fun j l hj => by
      by_cases e : k = j
      · subst e; rw [hk] at hj; cases hj; simp
      · exact hno j l (by rw [List.getElem?_set_ne e]; exact hj)
    exact ⟨a, b, by have := set_other (l := ties) hx (Int.natCast_nonneg z) hne ((-1 : Int), (-1 : Int), (k : Int)); rw [show ((z : Int)).toNat = z by simp] at this; rw [this]; exact h1⟩

/-- A thing comes behind a row that has a last one, y. -/
theorem QOK.push_snoc {n : Nat} {ties ends : List (Int × Int × Int)} {rows : List (List Int)} (h : QOK n ties ends rows) {k : Nat} {l0 : List Int} {y : Int} (hk : rows[k]? = some (l0 ++ [y])) {x : Int} (hx : 0 ≤ x) (hxn : x < n) (hout : ∀ (j : Nat) (l : List Int), rows[j]? = some l → x ∉ l) :
    QOK n ((ties.set x.toNat (y, -1, (k : Int))).set y.toNat (lastD l0, x, (k : Int))) (ends.set k (endOf (l0 ++ [y] ++ [x]))) (rows.set k (l0 ++ [y] ++ [x])) := by
  have hkl : k < rows.length := (List.getElem?_eq_some_iff.1 hk).1
  obtain ⟨hy0, hyn, hyt⟩ := h.ti k l0 y [] hk
  have hxy : x ≠ y := fun e => hout k _ hk (by rw [e]; simp)
  have hnd := h.nd k _ hk
  refine ⟨by simp [h.tl], by simp [h.el], fun j l hj => ?_, fun j l hj => ?_, fun j p z s hj => ?_, fun z hz hno => ?_⟩
  · by_cases e : k = j
    · subst e
      rw [List.getElem?_set_self hkl] at hj
      cases hj
      rw [List.getElem?_set_self (by rw [h.el]; exact hkl)]
    · rw [List.getElem?_set_ne e] at hj ⊢
      exact h.en j l hj
  · by_cases e : k = j
    · subst e
      rw [List.getElem?_set_self hkl] at hj
      cases hj
      refine List.nodup_append.2 ⟨hnd, by simp, ?_⟩
      intro a ha b hb
      simp only [List.mem_singleton] at hb
      subst hb
      intro e
      exact hout k _ hk (e ▸ ha)
    · rw [List.getElem?_set_ne e] at hj
      exact h.nd j l hj
  · by_cases e : k = j
    · subst e
      rw [List.getElem?_set_self hkl] at hj
      have h1 : l0 ++ [y] ++ [x] = p ++ z :: s := by simpa using hj
      by_cases hs : s = []
      · subst hs
        obtain ⟨h2, h3⟩ := List.append_inj' h1 rfl
        simp at h3
        subst h3 h2
        exact ⟨hx, hxn, by rw [set_other hy0 hx (Ne.symm hxy), set_self hx h.tl hxn, lastD_snoc]; rfl⟩
      · obtain ⟨s0, u, rfl⟩ : ∃ s0 u, s = s0 ++ [u] := ⟨s.dropLast, s.getLast hs, (List.dropLast_concat_getLast hs).symm⟩
        rw [show p ++ z :: (s0 ++ [u]) = (p ++ z :: s0) ++ [u] by simp] at h1
        obtain ⟨h2, h3⟩ := List.append_inj' h1 rfl
        simp at h3
        subst h3
        have hold : rows[k]? = some (p ++ z :: s0) := by rw [← h2]; exact hk
        obtain ⟨z0, zn, zt⟩ := h.ti k p z s0 hold
        refine ⟨z0, zn, ?_⟩
        by_cases hs0 : s0 = []
        · subst hs0
          obtain ⟨h4, h5⟩ := List.append_inj' h2 rfl
          simp at h5
          subst h5 h4
          rw [set_self hy0 (by simp [h.tl]) hyn]
          rfl
        · have hne : y ≠ z := by
            intro e
            rw [hold] at hk
            have h6 := h.nd k _ hold
            obtain ⟨s1, v, rfl⟩ : ∃ s1 v, s0 = s1 ++ [v] := ⟨s0.dropLast, s0.getLast hs0, (List.dropLast_concat_getLast hs0).symm⟩
            rw [show p ++ z :: (s1 ++ [v]) = (p ++ z :: s1) ++ [v] by simp] at h2 h6
            obtain ⟨_, h5⟩ := List.append_inj' h2 rfl
            simp at h5
            rw [← h5, e] at h6
            have := (List.nodup_append.1 h6).2.2 z (by simp) z (by simp)
            exact this rfl
          have hxz : x ≠ z := fun e => hout k _ hold (by rw [e]; simp)
          rw [set_other hy0 z0 hne, set_other hx z0 hxz, zt, headD_append _ _ hs0]
    · rw [List.getElem?_set_ne e] at hj
      obtain ⟨h1, h2, h3⟩ := h.ti j p z s hj
      have hne : x ≠ z := fun e => hout j _ hj (by rw [e]; simp)
      have hne2 : y ≠ z := fun e2 => e (h.sep hk hj (x := y) (by simp) (by rw [e2]; simp))
      exact ⟨h1, h2, by rw [set_other hy0 h1 hne2, set_other hx h1 hne]; exact h3⟩
  · have hr := List.getElem?_set_self (l := rows) (a := l0 ++ [y] ++ [x]) hkl
    have hne : (x : Int) ≠ (z : Int) := fun e => hno k _ hr (by rw [← e]; simp)
    have hne2 : (y : Int) ≠ (z : Int) := fun e => hno k _ hr (by rw [← e]; simp)
    obtain ⟨a, b, h1⟩ := h.out z hz fun j l hj => by
      by_cases e : k = j
      · subst e
        rw [hk] at hj
        cases hj
        intro hm
        exact hno k _ hr (List.mem_append_left _ hm)
      · exact hno j l (by rw [List.getElem?_set_ne e]; exact hj)
    have e0 : ((z : Int)).toNat = z := by simp
    refine ⟨a, b, ?_⟩
    rw [← e0, set_other hy0 (Int.natCast_nonneg z) hne2, set_other hx (Int.natCast_nonneg z) hne, e0]
    exact h1

/-- The ties when the one between p and s comes out: of the one ahead, of the one behind. -/
def linkA (T : List (Int × Int × Int)) (p s : List Int) (k : Nat) : List (Int × Int × Int) := match p.getLast? with | none => T | some a => T.set a.toNat (lastD p.dropLast, headD s, (k : Int))
def linkB (T : List (Int × Int × Int)) (p s : List Int) (k : Nat) : List (Int × Int × Int) := match s with | [] => T | b :: s0 => T.set b.toNat (lastD p, headD s0, (k : Int))
theorem linkA_nil (T : List (Int × Int × Int)) (s : List Int) (k : Nat) : linkA T [] s k = T := rfl
theorem linkA_snoc (T : List (Int × Int × Int)) (p : List Int) (a : Int) (s : List Int) (k : Nat) : linkA T (p ++ [a]) s k = T.set a.toNat (lastD p, headD s, (k : Int)) := by simp [linkA]
theorem linkA_len (T : List (Int × Int × Int)) (p s : List Int) (k : Nat) : (linkA T p s k).length = T.length := by unfold linkA; split <;> simp
theorem linkB_len (T : List (Int × Int × Int)) (p s : List Int) (k : Nat) : (linkB T p s k).length = T.length := by unfold linkB; split <;> simp
theorem linkA_other (T : List (Int × Int × Int)) (p s : List Int) (k : Nat) {z : Int} (hp : ∀ a ∈ p, 0 ≤ a) (hz : 0 ≤ z) (hne : p = [] ∨ lastD p ≠ z) : (linkA T p s k)[z.toNat]? = T[z.toNat]? := by
  by_cases h : p = []
  · subst h; rfl
  · obtain ⟨p0, a, rfl⟩ : ∃ p0 a, p = p0 ++ [a] := ⟨p.dropLast, p.getLast h, (List.dropLast_concat_getLast h).symm⟩
    rw [linkA_snoc]
    rcases hne with hne | hne
    · simp at hne
    · rw [lastD_snoc] at hne
      exact set_other (hp a (by simp)) hz hne _
theorem linkB_other (T : List (Int × Int × Int)) (p s : List Int) (k : Nat) {z : Int} (hs : ∀ a ∈ s, 0 ≤ a) (hz : 0 ≤ z) (hne : s = [] ∨ headD s ≠ z) : (linkB T p s k)[z.toNat]? = T[z.toNat]? := by
  cases s with
  | nil => rfl
  | cons b s0 =>
    rcases hne with hne | hne
    · simp at hne
    · exact set_other (hs b (by simp)) hz hne _
theorem notLast {p : List Int} {z : Int} (h : z ∉ p) : p = [] ∨ lastD p ≠ z := by
  by_cases hp : p = []
  · exact .inl hp
  · obtain ⟨p0, a, rfl⟩ : ∃ p0 a, p = p0 ++ [a] := ⟨p.dropLast, p.getLast hp, (List.dropLast_concat_getLast hp).symm⟩
    exact .inr (by rw [lastD_snoc]; intro e; exact h (by rw [e]; simp))
theorem notHead {s : List Int} {z : Int} (h : z ∉ s) : s = [] ∨ headD s ≠ z := by
  cases s with
  | nil => exact .inl rfl
  | cons a s => exact .inr (by rw [headD_cons]; intro e; exact h (by rw [e]; simp))

/-- The ties when x, between p and s of row k, comes out. -/
def dropT (T : List (Int × Int × Int)) (p : List Int) (x : Int) (s : List Int) (k : Nat) : List (Int × Int × Int) := (linkB (linkA T p s k) p s k).set x.toNat (lastD p, headD s, -1)

theorem QOK.drop {n : Nat} {ties ends : List (Int × Int × Int)} {rows : List (List Int)} (h : QOK n ties ends rows) {k : Nat} {p : List Int} {x : Int} {s : List Int} (hk : rows[k]? = some (p ++ x :: s)) :
    QOK n (dropT ties p x s k) (ends.set k (endOf (p ++ s))) (rows.set k (p ++ s)) := by
  have hkl : k < rows.length := (List.getElem?_eq_some_iff.1 hk).1
  obtain ⟨hx0, hxn, hxt⟩ := h.ti k p x s hk
  have hnd := h.nd k _ hk
  obtain ⟨hp1, hxs1, hdis⟩ := List.nodup_append.1 hnd
  obtain ⟨hxs, hs1⟩ := List.nodup_cons.1 hxs1
  have hp0 : ∀ a ∈ p, 0 ≤ a := fun a ha => by
    obtain ⟨_, _, _, h0, _⟩ := h.mem hk (x := a) (by simp [ha])
    exact h0
  have hs0 : ∀ a ∈ s, 0 ≤ a := fun a ha => by
    obtain ⟨_, _, _, h0, _⟩ := h.mem hk (x := a) (by simp [ha])
    exact h0
  have hxp : x ∉ p := fun hm => hdis x hm x (by simp) rfl
  have hps : ∀ z, z ∈ p → z ∉ s := fun z hz hm => hdis z hz z (by simp [hm]) rfl
  have un : ∀ z : Int, 0 ≤ z → x ≠ z → (p = [] ∨ lastD p ≠ z) → (s = [] ∨ headD s ≠ z) → (dropT ties p x s k)[z.toNat]? = ties[z.toNat]? := fun z hz hxz h1 h2 => by
    unfold dropT
    rw [set_other hx0 hz hxz, linkB_other _ _ _ _ hs0 hz h2, linkA_other _ _ _ _ hp0 hz h1]
  have hl : (dropT ties p x s k).length = n := by unfold dropT; rw [List.length_set, linkB_len, linkA_len, h.tl]
  have hlB : (linkB (linkA ties p s k) p s k).length = n := by rw [linkB_len, linkA_len, h.tl]
  have atHead : ∀ (z : Int) (s' : List Int), s = z :: s' → 0 ≤ z ∧ z < n ∧ (dropT ties p x s k)[z.toNat]? = some (lastD p, headD s', (k : Int)) := fun z s' e => by
    subst e
    obtain ⟨z0, zn, _⟩ := h.ti k (p ++ [x]) z s' (by rw [hk]; simp)
    have hxz : x ≠ z := fun e => hxs (by rw [e]; simp)
    refine ⟨z0, zn, ?_⟩
    unfold dropT
    rw [set_other hx0 z0 hxz]
    exact set_self z0 (by rw [linkA_len, h.tl]) zn _
  refine ⟨hl, by simp [h.el], fun j l hj => ?_, fun j l hj => ?_, fun j p' z s' hj => ?_, fun z hz hno => ?_⟩
  · by_cases e : k = j
    · subst e
      rw [List.getElem?_set_self hkl] at hj
      cases hj
      rw [List.getElem?_set_self (by rw [h.el]; exact hkl)]
    · rw [List.getElem?_set_ne e] at hj ⊢
      exact h.en j l hj
  · by_cases e : k = j
    · subst e
      rw [List.getElem?_set_self hkl] at hj
      cases hj
      exact List.nodup_append.2 ⟨hp1, hs1, fun a ha b hb => hdis a ha b (by simp [hb])⟩
    · rw [List.getElem?_set_ne e] at hj
      exact h.nd j l hj
  · by_cases e : k = j
    · subst e
      rw [List.getElem?_set_self hkl] at hj
      have h1 : p ++ s = p' ++ z :: s' := by simpa using hj
      rcases List.append_eq_append_iff.1 h1 with ⟨q, h2, h3⟩ | ⟨q, h2, h3⟩
      · by_cases hq : q = []
        · subst hq
          simp at h2 h3
          subst h2
          exact atHead z s' h3
        · subst h2
          have hzq : z ∉ q := fun hm => by
            rw [h3] at hs1
            exact (List.nodup_append.1 hs1).2.2 z hm z (by simp) rfl
          have hzs : z ∈ s := by rw [h3]; simp
          obtain ⟨z0, zn, zt⟩ := h.ti k (p ++ x :: q) z s' (by rw [hk, h3]; simp)
          refine ⟨z0, zn, ?_⟩
          rw [un z z0 (fun e => hxs (e ▸ hzs)) (notLast fun hm => hps z hm hzs) (by rw [h3, headD_append _ _ hq]; exact (notHead hzq).elim (fun e => absurd e hq) .inr), zt, lastD_cons _ _ _ hq, lastD_append _ _ hq]
      · cases q with
        | nil =>
          simp at h2 h3
          subst h2
          exact atHead z s' h3.symm
        | cons z2 q =>
          simp at h3
          obtain ⟨rfl, rfl⟩ := h3
          subst h2
          by_cases hq : q = []
          · subst hq
            obtain ⟨z0, zn, _⟩ := h.ti k p' z (x :: s) (by rw [hk]; simp)
            refine ⟨z0, zn, ?_⟩
            have hxz : x ≠ z := fun e => hxp (by rw [e]; simp)
            unfold dropT
            rw [set_other hx0 z0 hxz, linkB_other _ _ _ _ hs0 z0 (notHead (hps z (by simp))), linkA_snoc, set_self z0 h.tl zn]
            rfl
          · obtain ⟨z0, zn, zt⟩ := h.ti k p' z (q ++ x :: s) (by rw [hk]; simp)
            refine ⟨z0, zn, ?_⟩
            have hxz : x ≠ z := fun e => hxp (by rw [e]; simp)
            have hzq : z ∉ q := (List.nodup_cons.1 (List.nodup_append.1 hp1).2.1).1
            rw [un z z0 hxz (.inr (by rw [lastD_cons _ _ _ hq]; exact (notLast hzq).elim (fun e => absurd e hq) id)) (notHead (hps z (by simp))), zt, headD_append _ _ hq, headD_append _ _ hq]
    · rw [List.getElem?_set_ne e] at hj
      obtain ⟨h1, h2, h3⟩ := h.ti j p' z s' hj
      have hz : ∀ w, w ∈ p ++ x :: s → w ≠ z := fun w hw e2 => e (h.sep hk hj (x := w) hw (by rw [e2]; simp))
      exact ⟨h1, h2, by rw [un z h1 (hz x (by simp)) (notLast fun hm => hz z (by simp [hm]) rfl) (notHead fun hm => hz z (by simp [hm]) rfl)]; exact h3⟩
  · have hr := List.getElem?_set_self (l := rows) (a := p ++ s) hkl
    have hzps := hno k _ hr
    by_cases hxz : x = (z : Int)
    · refine ⟨lastD p, headD s, ?_⟩
      have := set_self (l := linkB (linkA ties p s k) p s k) hx0 hlB hxn (lastD p, headD s, (-1 : Int))
      unfold dropT
      rw [show x.toNat = z by omega] at this ⊢
      exact this
    · obtain ⟨a, b, h1⟩ := h.out z hz fun j l hj => by
        by_cases e : k = j
        · subst e
          rw [hk] at hj
          cases hj
          intro hm
          simp only [List.mem_append, List.mem_cons] at hm
          simp only [List.mem_append, not_or] at hzps
          rcases hm with hm | hm | hm
          · exact hzps.1 hm
          · exact hxz hm.symm
          · exact hzps.2 hm
        · exact hno j l (by rw [List.getElem?_set_ne e]; exact hj)
      simp only [List.mem_append, not_or] at hzps
      have e0 : ((z : Int)).toNat = z := by simp
      refine ⟨a, b, ?_⟩
      have := un z (Int.natCast_nonneg z) hxz (notLast hzps.1) (notHead hzps.2)
      rw [e0] at this
      rw [this]
      exact h1
end Go.Proofs.Ytijpdeanbkodkaa
