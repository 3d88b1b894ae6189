/-
  General words for all claims of this seat: a block known whole, what a call may change, small facts on both. No function of the program is named here.
-/
import Derived.WalkKit
import Derived.WalkSpells
import Derived.WalkLawsBesides
import Derived.Laws.CopyOwn
import Derived.Deep.QuietTactic
import Derived.BigQuiet
import Derived.Outline
namespace Go.Proofs.Ytijpdeanbkodkaa
open Go.RowKit

/-- A fact behind a name: the walk does not take it for a rule. -/
theorem hid {p : Prop} (h : p) : Hid p := h

/-- A block that holds just these cells, none of them frozen. -/
def Blk (w : World) (b : Nat) (t : TypeId) (cs : List Value) : Prop := w.heap[b]? = some (.cells cs.toArray t (0, 0))

theorem Blk.cell {w : World} {b : Nat} {t : TypeId} {cs : List Value} (h : Blk w b t cs) {i : Nat} {v : Value} (hv : cs[i]? = some v) : w.cell? ⟨b, i, none⟩ = some v := by
  rw [cell_of_row w b i _ t _ h]; simpa using hv
theorem Blk.frozen {w : World} {b : Nat} {t : TypeId} {cs : List Value} (h : Blk w b t cs) (i : Nat) : w.frozen? ⟨b, i, none⟩ = false := frozen_of_row w b i _ t h
theorem Blk.lt {w : World} {b : Nat} {t : TypeId} {cs : List Value} (h : Blk w b t cs) : b < w.heap.size := (Array.getElem?_eq_some_iff.1 h).1
theorem Blk.set {w : World} {b : Nat} {t : TypeId} {cs : List Value} (h : Blk w b t cs) (i : Nat) (v : Value) : Blk (w.setCell ⟨b, i, none⟩ v) b t (cs.set i v) := by
  have := heap_setCell_same w b i _ t v h
  unfold Blk; rw [this]; simp
theorem Blk.setRow {w : World} {b : Nat} {t : TypeId} {cs : List Value} (h : Blk w b t cs) (ds : List Value) : Blk (w.setRow b ds.toArray) b t ds := setRow_heap w b _ _ t _ h
theorem Blk.new (w : World) (t : TypeId) (cs : List Value) : Blk (w.alloc (.cells cs.toArray t)) w.heap.size t cs := heap_alloc_new w _
theorem Blk.ne {w : World} {a b : Nat} {s t : TypeId} {cs ds : List Value} (h : Blk w a s cs) (k : Blk w b t ds) (hne : s ≠ t) : a ≠ b := by
  rintro rfl
  unfold Blk at h k
  rw [h] at k
  simp at k
  exact hne k.2

/-- What a call may have changed of what was there: the blocks of S alone; the streams are as they were. -/
structure Kp (S : Nat → Prop) (w w' : World) : Prop where
  os : w'.os = w.os
  tape : w'.tape = w.tape
  output : w'.output = w.output
  size : w.heap.size ≤ w'.heap.size
  block : ∀ k, k < w.heap.size → ¬ S k → w'.heap[k]? = w.heap[k]?

/-- Nothing that was there has changed. -/
def No : Nat → Prop := fun _ => False
theorem Kp.refl (S : Nat → Prop) (w : World) : Kp S w w := ⟨rfl, rfl, rfl, Nat.le_refl _, fun _ _ _ => rfl⟩
theorem Kp.trans {S T : Nat → Prop} {a b c : World} (h : Kp S a b) (k : Kp T b c) (hT : ∀ i, i < a.heap.size → T i → S i) : Kp S a c :=
  ⟨k.os.trans h.os, k.tape.trans h.tape, k.output.trans h.output, Nat.le_trans h.size k.size, fun i hi hn =>
    (k.block i (Nat.lt_of_lt_of_le hi h.size) (fun t => hn (hT i hi t))).trans (h.block i hi hn)⟩
theorem Kp.trans' {S : Nat → Prop} {a b c : World} (h : Kp S a b) (k : Kp S b c) : Kp S a c := h.trans k fun _ _ h => h
theorem Kp.mono {S T : Nat → Prop} {a b : World} (h : Kp S a b) (hT : ∀ i, i < a.heap.size → S i → T i) : Kp T a b :=
  ⟨h.os, h.tape, h.output, h.size, fun i hi hn => h.block i hi (fun t => hn (hT i hi t))⟩
theorem Kp.alloc (S : Nat → Prop) (w : World) (o : Obj) : Kp S w (w.alloc o) := ⟨rfl, rfl, rfl, by simp, fun k hk _ => Below.heap_alloc w o k hk⟩
theorem Kp.drew (S : Nat → Prop) (w : World) : Kp S w w.drew := ⟨rfl, rfl, rfl, Nat.le_refl _, fun _ _ _ => rfl⟩
theorem Kp.drewN (S : Nat → Prop) (w : World) (n : Nat) : Kp S w (w.drewN n) := ⟨rfl, rfl, rfl, Nat.le_refl _, fun _ _ _ => rfl⟩
theorem Kp.setCell {S : Nat → Prop} (w : World) (a : Addr) (v : Value) (h : a.block < w.heap.size → S a.block) : Kp S w (w.setCell a v) :=
  ⟨rfl, rfl, rfl, by simp [World.setCell], fun k hk hn => heap_setCell_other w a k v (fun e => hn (e ▸ h (e ▸ hk)))⟩
theorem Kp.setRow {S : Nat → Prop} (w : World) (g : Nat) (cs : Array Value) (h : g < w.heap.size → S g) : Kp S w (w.setRow g cs) :=
  ⟨rfl, rfl, rfl, by simp, fun k hk hn => setRow_other w g k cs (fun e => hn (e ▸ h (e ▸ hk)))⟩
theorem Kp.of_grown {S : Nat → Prop} {w w' : World} {row : Option Nat} (h : w.grownBy w' row) (hr : ∀ k, row = some k → k < w.heap.size → S k) : Kp S w w' :=
  ⟨h.os, h.tape, h.output, h.size, fun k hk hn => h.block k hk (fun e => hn (hr k e.symm hk))⟩
theorem Kp.to_grown {w w' : World} (h : Kp No w w') : w.grownBy w' none := ⟨h.os, h.tape, h.output, h.size, fun k hk _ => h.block k hk (fun x => x)⟩
theorem Kp.below {S : Nat → Prop} {w w' : World} {B : Nat} (h : Kp S w w') (hB : B ≤ w.heap.size) (hS : ∀ k, S k → B ≤ k) : Below B w w' :=
  ⟨h.os, h.tape, h.output, h.size, fun k hk => h.block k (by omega) (fun s => by have := hS k s; omega)⟩
theorem Kp.of_below {B : Nat} {w w' : World} (h : Below B w w') : Kp (fun k => B ≤ k) w w' := ⟨h.os, h.tape, h.output, h.size, fun k _ hn => h.block k (by omega)⟩
theorem Kp.blk {S : Nat → Prop} {w w' : World} (h : Kp S w w') {b : Nat} {t : TypeId} {cs : List Value} (hb : Blk w b t cs) (hn : ¬ S b) : Blk w' b t cs := by
  unfold Blk; rw [h.block b hb.lt hn]; exact hb
theorem Blk.kp' {w w' : World} {b : Nat} {t : TypeId} {cs : List Value} (hb : Blk w b t cs) (h : Kp No w w') : Blk w' b t cs := h.blk hb id
theorem Kp.cell {S : Nat → Prop} {w w' : World} (h : Kp S w w') {a : Addr} {v : Value} (hv : w.cell? a = some v) (hn : ¬ S a.block) : w'.cell? a = some v :=
  (World.cell?_of_block (h.block a.block (block_lt_of_cell hv) hn)).trans hv
theorem Kp.owns {S : Nat → Prop} {w w' : World} (h : Kp S w w') {base : Nat} {e : TypeId} {size : Nat} {v : Value} {n : Nat} {xs : List Value} (ho : w.ownsRow base e size v n xs) (hn : ∀ k, v.ownBlock = some k → ¬ S k) : w'.ownsRow base e size v n xs := by
  refine ⟨ho.1, ?_⟩
  rcases ho.2 with hn' | ⟨g, cap, cur, rfl, hb, hgg, rest⟩
  · exact .inl hn'
  · refine .inr ⟨g, cap, cur, rfl, hb, ?_, rest⟩
    rw [h.block g (Array.getElem?_eq_some_iff.1 hgg).1 (hn g rfl)]
    exact hgg
theorem owns_ne {w : World} {base : Nat} {e : TypeId} {size : Nat} {v : Value} {n : Nat} {xs : List Value} (ho : w.ownsRow base e size v n xs) {b : Nat} {t : TypeId} {cs : List Value} (hb : Blk w b t cs) (hne : e ≠ t) : v.ownBlock ≠ some b := by
  rcases ho.2 with ⟨rfl, _⟩ | ⟨g, cap, cur, rfl, _, hgg, _⟩
  · simp [Value.ownBlock]
  · intro h
    simp only [Value.ownBlock, Option.some.injEq] at h
    subst h
    unfold Blk at hb
    rw [hgg] at hb
    simp at hb
    exact hne hb.2

/-! ### Laws on make and copy, said of blocks that are known whole -/
/-- The cells of n elements, each the cells zs. -/
def reps (n : Nat) (zs : List Value) : List Value := (List.replicate n zs).flatten

theorem length_reps (n : Nat) (zs : List Value) : (reps n zs).length = n * zs.length := by simp [reps]

theorem reps_one (n : Nat) (z : Value) : reps n [z] = List.replicate n z := by
  induction n with
  | zero => rfl
  | succ n ih => simp only [reps, List.replicate_succ, List.flatten_cons] at *; rw [ih]; rfl

theorem getElem?_reps (n : Nat) (zs : List Value) (i : Nat) (h : i < n * zs.length) : (reps n zs)[i]? = zs[i % zs.length]? := by
  induction n generalizing i with
  | zero => simp at h
  | succ n ih =>
    have e : reps (n + 1) zs = zs ++ reps n zs := by simp [reps, List.replicate_succ]
    rw [e]
    by_cases hi : i < zs.length
    · rw [List.getElem?_append_left hi, Nat.mod_eq_of_lt hi]
    · rw [List.getElem?_append_right (by omega), ih (i - zs.length) (by rw [Nat.succ_mul] at h; omega)]
      have : i % zs.length = (i - zs.length) % zs.length := Nat.mod_eq_sub_mod (by omega)
      rw [this]

theorem madeCells_reps (zs : List Value) (n : Nat) : (madeCells zs.toArray (n * zs.length)) = (reps n zs).toArray := by
  apply Array.ext_getElem?
  intro i
  simp only [madeCells, Array.getElem?_map, Array.getElem?_range, List.getElem?_toArray]
  by_cases hi : i < n * zs.length
  · have hz : 0 < zs.length := Nat.pos_of_ne_zero (by intro h; rw [h] at hi; simp at hi)
    have hm : i % zs.length < zs.length := Nat.mod_lt _ hz
    rw [if_pos hi, getElem?_reps n zs i hi]
    simp [hm]
  · rw [if_neg hi, List.getElem?_eq_none (by rw [length_reps]; omega)]
    rfl

/-- What the program's table says of a slice type t of elements e: an element's zero cells, its bytes. -/
structure Elem (P : Program) (t e : TypeId) (zs : List Value) (bytes : Nat) : Prop where
  sl : P.underlying t = some (.slice e)
  info : ∃ i z, P.info? e = some i ∧ i.zero = some z ∧ i.size = zs.length ∧ i.bytes = bytes ∧ z.cells = zs.toArray
  pos : 0 < zs.length

theorem Elem.of {P : Program} {t e : TypeId} {z : Value} {zs : List Value} {bytes : Nat} (h : P.underlying t = some (.slice e))
    (k : (P.info? e).map (fun i => (i.zero, i.size, i.bytes)) = some (some z, zs.length, bytes)) (hz : z.cells = zs.toArray) (hp : 0 < zs.length) : Elem P t e zs bytes := by
  obtain ⟨i, hi, h0, h1, h2⟩ := info_parts k
  exact ⟨h, ⟨i, z, hi, h0, h1, h2, hz⟩, hp⟩

/-- A slice that owns its first cells: nil, or at the head of a block; cells behind them are spare. -/
def Sl (w : World) (e : TypeId) (sz : Nat) (v : Value) (n : Nat) (cs : List Value) : Prop := w.ownsRow 0 e sz v n cs

/-- The block of v is the one of u, or was not there in w. -/
def Moved (w : World) (u v : Value) : Prop := v.ownBlock = u.ownBlock ∨ ∃ b, v.ownBlock = some b ∧ w.heap.size ≤ b

theorem moved_ge {w : World} {u v : Value} (h : Moved w u v) {B : Nat} (hu : ∀ k, u.ownBlock = some k → B ≤ k) (hB : B ≤ w.heap.size) : ∀ k, v.ownBlock = some k → B ≤ k := by
  intro k hk
  rcases h with h | ⟨b, h, hb⟩
  · exact hu k (h ▸ hk)
  · rw [h] at hk; cases hk; omega
theorem Sl.kp {S : Nat → Prop} {w w' : World} (h : Kp S w w') {e : TypeId} {sz : Nat} {v : Value} {n : Nat} {cs : List Value} (ho : Sl w e sz v n cs) (hn : ∀ k, v.ownBlock = some k → ¬ S k) : Sl w' e sz v n cs := h.owns ho hn
theorem Sl.nil (w : World) (e : TypeId) (sz : Nat) : Sl w e sz (.slice none 0 0) 0 [] := World.ownsRow_nil _ _ _ _
theorem Sl.of_blk {w : World} {b : Nat} {e : TypeId} {cs : List Value} (h : Blk w b e cs) (sz n : Nat) (hl : cs.length = n * sz) (hm : n ≤ maxLen) : Sl w e sz (.slice (some ⟨b, 0, none⟩) n n) n cs :=
  ⟨hl, .inr ⟨b, n, cs.toArray, rfl, Nat.zero_le _, h, Nat.le_refl _, hm, by simpa using hl, by simp [← hl]⟩⟩
theorem Sl.lt {w : World} {e : TypeId} {sz : Nat} {v : Value} {n : Nat} {cs : List Value} (h : Sl w e sz v n cs) {k : Nat} (hk : v.ownBlock = some k) : k < w.heap.size := (World.ownsRow.lt h k hk).2
theorem Sl.ne {w : World} {e : TypeId} {sz : Nat} {v : Value} {n : Nat} {cs : List Value} (h : Sl w e sz v n cs) {b : Nat} {t : TypeId} {ds : List Value} (hb : Blk w b t ds) (hne : e ≠ t) : v.ownBlock ≠ some b := owns_ne h hb hne
/-- Its shape where it has an element. -/
theorem Sl.shape {w : World} {e : TypeId} {sz : Nat} {v : Value} {n : Nat} {cs : List Value} (h : Sl w e sz v n cs) (hn : 0 < n) : ∃ g cap, v = .slice (some ⟨g, 0, none⟩) n cap ∧ n ≤ cap ∧ cap ≤ maxLen := by
  rcases h.2 with ⟨_, h0⟩ | ⟨g, cap, cur, rfl, _, _, h1, h2, _⟩
  · omega
  · exact ⟨g, cap, rfl, h1, h2⟩
theorem Sl.cell {w : World} {e : TypeId} {sz : Nat} {g n cap : Nat} {cs : List Value} (h : Sl w e sz (.slice (some ⟨g, 0, none⟩) n cap) n cs) {j : Nat} {u : Value} (hu : cs[j]? = some u) : w.cell? ⟨g, j, none⟩ = some u := by
  have hj : j < n * sz := by rw [← h.1]; exact (List.getElem?_eq_some_iff.1 hu).1
  rw [World.ownsRow.cellAt h j hj]; exact hu
theorem Sl.frozen {w : World} {e : TypeId} {sz : Nat} {g n cap : Nat} {cs : List Value} (h : Sl w e sz (.slice (some ⟨g, 0, none⟩) n cap) n cs) (j : Nat) : w.frozen? ⟨g, j, none⟩ = false := World.ownsRow.frozenAt h j
theorem Sl.set {w : World} {e : TypeId} {sz : Nat} {g n cap : Nat} {cs : List Value} (h : Sl w e sz (.slice (some ⟨g, 0, none⟩) n cap) n cs) (j : Nat) (u : Value) :
    Sl (w.setCell ⟨g, j, none⟩ u) e sz (.slice (some ⟨g, 0, none⟩) n cap) n (cs.set j u) := (World.ownsRow.stored h j u).1
theorem Sl.source {w : World} {e : TypeId} {sz : Nat} {g n cap : Nat} {cs : List Value} (h : Sl w e sz (.slice (some ⟨g, 0, none⟩) n cap) n cs) : ∀ j u, cs[j]? = some u → w.cell? ((⟨g, 0, none⟩ : Addr).add j) = some u :=
  fun j u hu => by rw [Addr.add_lit]; simpa using h.cell hu

section
variable {P : Program}

theorem run_append (w : World) {t e : TypeId} {zs : List Value} {bytes : Nat} (ty : TypeId) (E : Elem P t e zs bytes) (v : Value) (n : Nat) (xs : List Value) (hown : Sl w e zs.length v n xs)
    (so : Option Addr) (m c : Nat) (news : List Value) (hl : news.length = m * zs.length) (hnews : 0 < m → ∃ a, so = some a ∧ ∀ j u, news[j]? = some u → w.cell? (a.add j) = some u) (h1 : ∀ u ∈ news, u.oneCell' = true)
    (h63 : n + m ≤ maxLen) (hbytes : (n + m) * bytes ≤ 140737488355328) (hso : so = none → c = 0) :
    ∃ v' w', (Builtin.append_ #[t, t] ty #[v, .slice so m c]).run P w = .ok v' w' ∧ Sl w' e zs.length v' (n + m) (xs ++ news) ∧ Kp (fun b => v.ownBlock = some b) w w' ∧ Moved w v v' ∧
      (v' = .slice none 0 0 ↔ v = .slice none 0 0 ∧ m = 0) := by
  obtain ⟨i, z, hi, hz, hsize, hby, hzc⟩ := E.info
  have hzs : z.cells.size = i.size := by rw [hzc, hsize]; simp
  have hsz : 0 < i.size := by rw [hsize]; exact E.pos
  have ht := E.sl
  rw [← hsize] at hown hl ⊢
  subst hby
  have hsmall : n + m ≤ 9223372036854775807 := by simp only [maxLen] at h63; omega
  have hlen : (xs ++ news).length = (n + m) * i.size := by rw [List.length_append, hown.1, hl, Nat.add_mul]
  by_cases hm : m = 0
  · subst hm
    have hn : news = [] := List.eq_nil_of_length_eq_zero (by simpa using hl)
    subst hn
    cases so with
    | none =>
      have hc := hso rfl
      subst hc
      exact ⟨v, w, run_append_owned_none (P := P) w 0 t ty e i i.size ht hi v n xs hown, by simpa using hown, Kp.refl _ _, .inl rfl, by simp⟩
    | some a =>
      rcases hown.2 with ⟨rfl, rfl⟩ | ⟨g, cap, cur, rfl, hbg, hg, hnc, hcm, hcs, htake⟩
      · refine ⟨.slice none 0 0, w, ?_, by simpa using hown, Kp.refl _ _, .inl rfl, by simp⟩
        simp [Builtin.append_, run_underlying ht, sizeOf, typeInfo, hi, Builtin.lenOf, Builtin.firstCells, loadCells, loadCellsFrom]
      · refine ⟨.slice (some ⟨g, 0, none⟩) n cap, w.setRow g cur, ?_, ⟨by simpa using hown.1, .inr ⟨g, cap, cur, rfl, hbg, setRow_heap w g cur _ e _ hg, hnc, hcm, hcs, by simpa using htake⟩⟩, Kp.setRow _ _ _ (fun _ => rfl), .inl rfl, by simp⟩
        have hr := run_append_room (P := P) w t ty e i ht hi g n cap cur hg a 0 c [] (by simp) (by simp) (by simp) (by simpa using hnc) (by rw [hcs]; simpa using Nat.mul_le_mul_right _ hnc)
        simpa using hr
  · obtain ⟨a, rfl, hnw⟩ := hnews (by omega)
    have grown : ∀ (old : Nat), old < n + m →
        Sl (w.drew.alloc (.cells (xs.toArray ++ news.toArray ++ Builtin.zeroCells z.cells (grownCap w (n + m) old e - (n + m))) e)) e i.size
          (.slice (some ⟨w.heap.size, 0, none⟩) (n + m) (grownCap w (n + m) old e)) (n + m) (xs ++ news) := by
      intro old ho
      have hge := grownCap_ge w (n + m) old e
      have hcm : grownCap w (n + m) old e ≤ maxLen := grownCap_le_maxLen w (n + m) old e h63
      refine ⟨hlen, .inr ⟨w.heap.size, _, _, rfl, Nat.zero_le _, heap_alloc_new w.drew _, hge, hcm, ?_, ?_⟩⟩
      · simp only [Array.size_append, List.size_toArray, size_zeroCells, hzs, hown.1, hl, ← Nat.add_mul]
        congr 1
        omega
      · simp only [Array.toList_append, List.append_assoc]
        rw [← List.append_assoc, ← hlen]
        exact List.take_left
    have kept : ∀ o, Kp (fun b => v.ownBlock = some b) w (w.drew.alloc o) := fun o => (Kp.drew _ w).trans' (Kp.alloc _ _ _)
    rcases hown.2 with ⟨rfl, rfl⟩ | ⟨g, cap, cur, rfl, hbg, hg, hnc, hcm, hcs, htake⟩
    · have hx : xs = [] := List.eq_nil_of_length_eq_zero (by simpa using hown.1)
      subst hx
      have hr := run_append_nil (P := P) w t ty e i z ht hi hz a m c news hl hnw (by omega) (by omega) (by have hb := hbytes; simp only [Nat.zero_add] at hb; omega)
      have hgr := grown 0 (by omega)
      simp only [Nat.zero_add, List.nil_append, Array.empty_append] at hgr ⊢
      exact ⟨_, _, hr, hgr, kept _, .inr ⟨w.heap.size, rfl, Nat.le_refl _⟩, by simp [hm]⟩
    · by_cases hroom : n + m ≤ cap
      · have hfit : n * i.size + news.length ≤ cur.size := by rw [hl, hcs, ← Nat.add_mul]; exact Nat.mul_le_mul_right _ hroom
        have hr := run_append_room (P := P) w t ty e i ht hi g n cap cur hg a m c news hl hnw h1 hroom hfit
        refine ⟨_, _, hr, ⟨hlen, .inr ⟨g, cap, _, rfl, hbg, setRow_heap w g cur _ e _ hg, hroom, hcm, ?_, ?_⟩⟩, Kp.setRow _ _ _ (fun _ => rfl), .inl rfl, by simp⟩
        · simp only [List.size_toArray, List.length_append, List.length_take, List.length_drop, Array.length_toList]
          omega
        · rw [htake, ← hlen]
          exact List.take_left
      · have holds : ∀ j u, xs[j]? = some u → w.cell? ((⟨g, 0, none⟩ : Addr).add j) = some u := World.ownsRow.cells hown (g := g) rfl
        have hr := run_append_grow (P := P) w t ty e i z ht hi hz ⟨g, 0, none⟩ n cap xs hown.1 holds a m c news hl hnw (by omega) (by omega) (growslice_fits (by omega) hbytes)
        exact ⟨_, _, hr, grown cap (by omega), kept _, .inr ⟨w.heap.size, rfl, Nat.le_refl _⟩, by simp⟩

variable {w : World} {ops : Array Oper} {rest : List Oper} {o : Oper} {a : Act} {Q : Exit → Act → World → Prop}

/-- 'append(s, x...)'. -/
theorem wpl_append (hgd : o.guard = none) (s x : Operand) (t : TypeId) (ho : o.op = .call { callee := .builtin .append, args := #[s, x], argTypes := #[t, t] })
    {e : TypeId} {zs : List Value} {bytes : Nat} (E : Elem P t e zs bytes) (v : Value) (n : Nat) (xs : List Value) (hs : a.eval s = v) (hown : Sl w e zs.length v n xs)
    (so : Option Addr) (m c : Nat) (news : List Value) (hx : a.eval x = .slice so m c) (hl : news.length = m * zs.length) (hnews : 0 < m → ∃ ad, so = some ad ∧ ∀ j u, news[j]? = some u → w.cell? (ad.add j) = some u) (h1 : ∀ u ∈ news, u.oneCell' = true)
    (h63 : n + m ≤ maxLen) (hbytes : (n + m) * bytes ≤ 140737488355328) (hso : so = none → c = 0)
    (h : ∀ v' w', Sl w' e zs.length v' (n + m) (xs ++ news) → Kp (fun b => v.ownBlock = some b) w w' → Moved w v v' → wpList P ops Q rest (a.put o.dst v') w') :
    wpList P ops Q (o :: rest) a w := by
  refine wpList_plain hgd fun K hK => ?_
  obtain ⟨v', w', hr, h2, h3, h4, _⟩ := run_append (P := P) w o.type E v n xs hown so m c news hl hnews h1 h63 hbytes hso
  unfold Oper.wp execOp
  simp only [ho, resolve, invoke, builtin, Sem.run_bind, Sem.run_pure, Result.andThen_ok, List.map_toArray, List.map_cons, List.map_nil, hs, hx, hr]
  exact hK _ _ (h v' w' h2 h3 h4)

/-- 'make([]T, n)'. -/
theorem wpl_make (hg : o.guard = none) (l c : Operand) (t : TypeId) (hop : o.op = Op.makeSlice t l c) {e : TypeId} {zs : List Value} {bytes : Nat} (E : Elem P t e zs bytes)
    (kl kc : IntKind) (n : Nat) (hl : a.eval l = .int kl n) (hc : a.eval c = .int kc n) (b2 : bytes * n ≤ 281474976710656) (b3 : n ≤ 281474976710656)
    (hK : ∀ w', Blk w' w.heap.size e (reps n zs) → Kp No w w' → wpList P ops Q rest (a.put o.dst (.slice (some ⟨w.heap.size, 0, none⟩) n n)) w') :
    wpList P ops Q (o :: rest) a w := by
  refine wpList_plain hg fun K hK' => ?_
  obtain ⟨i, z, h2, h3, h4, h6, h5⟩ := E.info
  have hb : ((bytes * n : Nat) : Int) ≤ 281474976710656 := by omega
  rw [Int.natCast_mul, ← h6] at hb
  have hr := run_make (P := P) w t e i z E.sl h2 h3 kl kc (n : Int) (n : Int) (by omega) (by omega) hb (by omega)
  unfold Oper.wp
  simp [execOp, hop, hl, hc, hr, Result.andThen, h4, h5, madeCells_reps]
  exact hK' _ _ (hK _ (Blk.new _ _ _) (Kp.alloc _ _ _))

/-- 'copy(dst, src)', dst from a known block's head on; elements of one cell. -/
theorem wpl_copy (hgd : o.guard = none) (d s : Operand) (dT sT : TypeId)
    (ho : o.op = .call { callee := .builtin .copy, args := #[d, s], argTypes := #[dT, sT] }) {elem : TypeId} {z0 : Value} {bytes : Nat} (E : Elem P dT elem [z0] bytes)
    (g dLen dCap : Nat) (sp : Option Addr) (sLen sCap : Nat) (hd : a.eval d = .slice (some ⟨g, 0, none⟩) dLen dCap) (hs : a.eval s = .slice sp sLen sCap)
    (t : TypeId) (cur : List Value) (hg : Blk w g t cur) (cs : List Value) (hn : cs.length = Nat.min sLen dLen)
    (hsrc : 0 < cs.length → ∃ ad, sp = some ad ∧ ∀ j v, cs[j]? = some v → w.cell? (ad.add j) = some v) (hfit : cs.length ≤ cur.length) (h1 : ∀ v ∈ cs, v.oneCell' = true)
    (h : ∀ w', Blk w' g t (cs ++ cur.drop cs.length) → Kp (· = g) w w' → wpList P ops Q rest (a.put o.dst (goInt cs.length)) w') :
    wpList P ops Q (o :: rest) a w := by
  refine wpList_plain hgd fun K hK => ?_
  obtain ⟨i, z, hi, _, hsz, _⟩ := E.info
  have hsz' : (P.info? elem).map (·.size) = some 1 := by rw [hi]; simp [hsz]
  by_cases h0 : cs.length = 0
  · obtain rfl : cs = [] := List.eq_nil_of_length_eq_zero h0
    have hrun := run_copy_none (P := P) w dT sT o.type elem (some ⟨g, 0, none⟩) sp dLen dCap sLen sCap E.sl hsz' (by simpa using hn.symm)
    unfold Oper.wp
    simp [execOp, ho, resolve, invoke, builtin, hd, hs, hrun, Result.andThen]
    exact hK _ _ (h w (by simpa using hg) (Kp.refl _ _))
  · obtain ⟨ad, rfl, hc⟩ := hsrc (by omega)
    have hrun := run_copy_row (P := P) w dT sT o.type elem g 0 dLen dCap ad sLen sCap cur.toArray t cs E.sl hsz' hg hn hc (by simpa using hfit) h1
    unfold Oper.wp
    simp [execOp, ho, resolve, invoke, builtin, hd, hs, hrun, Result.andThen]
    refine hK _ _ (h _ ?_ (Kp.setRow _ _ _ fun _ => rfl))
    have := hg.setRow (cs ++ cur.drop cs.length)
    simpa using this
end

/-- A source of numbers: a slice that came in, or any other: its first n elements. -/
def Src (w : World) (k : IntKind) (a : Option Addr) (n : Nat) (l : List Int) : Prop :=
  l.length = n ∧ (a = none → n = 0) ∧ ∀ ad, a = some ad → ∀ i v, (l.map (Value.int k))[i]? = some v → w.cell? (ad.add i) = some v

theorem Src.kp {w w' : World} {k : IntKind} {a : Option Addr} {n : Nat} {l : List Int} {S : Nat → Prop} (h : Src w k a n l) (hk : Kp S w w') (hn : ∀ ad, a = some ad → ¬ S ad.block) : Src w' k a n l :=
  ⟨h.1, h.2.1, fun ad e i v hv => hk.cell (h.2.2 ad e i v hv) (by have := hn ad e; unfold Addr.add; split <;> exact this)⟩
theorem Src.ints {w : World} {k : IntKind} {a : Option Addr} {n : Nat} {l : List Int} (h : Src w k a n l) : 0 < (l.map (Value.int k)).length → ∃ ad, a = some ad ∧ ∀ j v, (l.map (Value.int k))[j]? = some v → w.cell? (ad.add j) = some v := by
  intro hl
  cases a with
  | none => have := h.2.1 rfl; have := h.1; simp at hl; omega
  | some ad => exact ⟨ad, rfl, h.2.2 ad rfl⟩
theorem Src.cellN {w : World} {k : IntKind} {a : Option Addr} {n : Nat} {l : List Int} (h : Src w k a n l) (i : Nat) (hi : i < n) : ∃ ad, a = some ad ∧ w.cell? (ad.add i) = some (.int k (l[i]?.getD 0)) := by
  cases a with
  | none => have := h.2.1 rfl; omega
  | some ad => exact ⟨ad, rfl, h.2.2 ad rfl i _ (by have := h.1; simp [show i < l.length by omega])⟩
theorem Src.of_blk {w : World} {k : IntKind} {b : Nat} {t : TypeId} {l : List Int} (h : Blk w b t (l.map (Value.int k))) : Src w k (some ⟨b, 0, none⟩) l.length l :=
  ⟨rfl, fun e => (by cases e), fun ad e i v hv => by cases e; rw [Addr.add_lit]; exact h.cell (by simpa using hv)⟩

/-- A row of numbers that came in, as the proofs' outer frames say it: its elements are a source. -/
theorem Src.of_row {w : World} {k : IntKind} {a : Option Addr} {len cap : Nat} {zs : List Int}
    (h : (a = none ∧ len = 0 ∧ cap = 0 ∧ zs = []) ∨ ∃ x, a = some x ∧ len ≤ cap ∧ cap ≤ maxLen ∧ zs.length = cap ∧ (∀ i, i < zs.length → w.cell? (x.add i) = some (.int k (zs.getD i 0))) ∧ ∀ n ∈ zs, (Lit.int k n).wf = true) :
    ∃ l, Src w k a len l ∧ ∀ n ∈ l, (Lit.int k n).wf = true := by
  rcases h with ⟨rfl, rfl, rfl, rfl⟩ | ⟨x, rfl, hl, hm, hz, hc, hw⟩
  · exact ⟨[], ⟨rfl, fun _ => rfl, fun ad e => by cases e⟩, by simp⟩
  · refine ⟨zs.take len, ⟨by simp; omega, (fun e => by cases e), fun ad e i v hv => ?_⟩, fun n hn => hw n (List.mem_of_mem_take hn)⟩
    cases e
    rw [List.getElem?_map] at hv
    obtain ⟨y, hy, rfl⟩ := Option.map_eq_some_iff.1 hv
    rw [List.getElem?_take] at hy
    split at hy
    · rename_i hi
      rw [hc i (by omega)]
      simp [hy]
    · cases hy

/-- An argument's memory lies below the call's own. -/
theorem Src.lt {w : World} {k : IntKind} {a : Option Addr} {n : Nat} {l : List Int} (h : Src w k a n l) (hn : 0 < n) : ∀ ad, a = some ad → ad.block < w.heap.size := by
  intro ad e
  obtain ⟨ad', e', hc⟩ := h.cellN 0 hn
  rw [e] at e'
  cases e'
  exact block_lt_of_cell hc

/-- What lies below B is there behind whatever was done from B on. -/
theorem Src.above {w w' : World} {k : IntKind} {a : Option Addr} {n : Nat} {l : List Int} {B : Nat} (h : Src w k a n l) (hB : w.heap.size ≤ B) (hk : Kp (fun b => B ≤ b) w w') : Src w' k a n l :=
  ⟨h.1, h.2.1, fun ad e i v hv => by
    have hc := h.2.2 ad e i v hv
    exact hk.cell hc (by have := block_lt_of_cell hc; omega)⟩

/-- An owned slice of numbers is a source. -/
theorem Sl.src {w : World} {e : TypeId} {v : Value} {n : Nat} {k : IntKind} {l : List Int} (h : Sl w e 1 v n (l.map (Value.int k))) : ∃ so c, v = .slice so n c ∧ Src w k so n l ∧ (so = none → c = 0) := by
  have hl : l.length = n := by have := h.1; simpa using this
  rcases h.2 with ⟨rfl, rfl⟩ | ⟨g, cap, cur, rfl, _, hg, _⟩
  · exact ⟨none, 0, rfl, ⟨hl, fun _ => rfl, fun ad e => (by cases e)⟩, fun _ => rfl⟩
  · exact ⟨some ⟨g, 0, none⟩, cap, rfl, ⟨hl, fun e => (by cases e), fun ad e i u hu => (by cases e; exact Sl.source h i u hu)⟩, fun e => (by cases e)⟩

/-- Its form, nil or not. -/
theorem Sl.form {w : World} {e : TypeId} {sz : Nat} {v : Value} {n : Nat} {cs : List Value} (h : Sl w e sz v n cs) : ∃ so cap, v = .slice so n cap ∧ n ≤ cap ∧ (so = none → cap = 0) := by
  rcases h.2 with ⟨rfl, rfl⟩ | ⟨g, cap, cur, rfl, _, _, h1, _⟩
  · exact ⟨none, 0, rfl, Nat.le_refl _, fun _ => rfl⟩
  · exact ⟨some ⟨g, 0, none⟩, cap, rfl, h1, fun e => (by cases e)⟩
theorem Sl.at_ {w : World} {e : TypeId} {sz : Nat} {so : Option Addr} {n c : Nat} {cs : List Value} (h : Sl w e sz (.slice so n c) n cs) (hn : 0 < n) : ∃ g, so = some ⟨g, 0, none⟩ := by
  obtain ⟨g, cap, he, _⟩ := h.shape hn
  exact ⟨g, by simp at he; exact he.1⟩

theorem Blk.source {w : World} {b : Nat} {t : TypeId} {cs : List Value} (h : Blk w b t cs) : ∀ j u, cs[j]? = some u → w.cell? ((⟨b, 0, none⟩ : Addr).add j) = some u :=
  fun j u hu => by rw [Addr.add_lit]; simpa using h.cell hu

/-! ### Rows of records of one size -/
theorem recs_length {α : Type} {f : α → List Value} {sz : Nat} (hf : ∀ x, (f x).length = sz) (xs : List α) : (xs.flatMap f).length = xs.length * sz := by
  induction xs with
  | nil => simp
  | cons x xs ih => simp only [List.flatMap_cons, List.length_append, hf, ih, List.length_cons, Nat.succ_mul]; omega
theorem recs_get {α : Type} {f : α → List Value} {sz : Nat} (hf : ∀ x, (f x).length = sz) {xs : List α} {k : Nat} {x : α} (hx : xs[k]? = some x) {j : Nat} (hj : j < sz) : (xs.flatMap f)[k * sz + j]? = (f x)[j]? := by
  induction xs generalizing k with
  | nil => simp at hx
  | cons y xs ih =>
    rw [List.flatMap_cons]
    cases k with
    | zero =>
      simp at hx
      subst hx
      rw [List.getElem?_append_left (by rw [hf]; omega)]
      simp
    | succ k =>
      rw [List.getElem?_append_right (by rw [hf, Nat.succ_mul]; omega), hf]
      rw [show (k + 1) * sz + j - sz = k * sz + j by rw [Nat.succ_mul]; omega]
      exact ih (by simpa using hx)
theorem recs_set {α : Type} {f : α → List Value} {sz : Nat} (hf : ∀ x, (f x).length = sz) {xs : List α} {k : Nat} {x x' : α} (hx : xs[k]? = some x) {j : Nat} (hj : j < sz) {v : Value} (h : f x' = (f x).set j v) :
    (xs.flatMap f).set (k * sz + j) v = (xs.set k x').flatMap f := by
  induction xs generalizing k with
  | nil => simp at hx
  | cons y xs ih =>
    rw [List.flatMap_cons]
    cases k with
    | zero =>
      simp at hx
      subst hx
      rw [List.set_append_left _ _ (by rw [hf]; omega)]
      simp [h]
    | succ k =>
      rw [List.set_append_right _ _ (by rw [hf, Nat.succ_mul]; omega), hf]
      rw [show (k + 1) * sz + j - sz = k * sz + j by rw [Nat.succ_mul]; omega]
      rw [ih (by simpa using hx)]
      simp
theorem recs_reps {α : Type} {f : α → List Value} (x : α) (n : Nat) : reps n (f x) = (List.replicate n x).flatMap f := by
  induction n with
  | zero => rfl
  | succ n ih => simp only [reps, List.replicate_succ, List.flatten_cons, List.flatMap_cons] at *; rw [ih]

#print axioms Kp.owns
end Go.Proofs.Ytijpdeanbkodkaa
