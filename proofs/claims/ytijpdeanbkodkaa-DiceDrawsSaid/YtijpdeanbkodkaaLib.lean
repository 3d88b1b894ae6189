/-
  General words for all claims of this seat: a block known whole, what a call may change, small facts on both. No function of the program is named here.
-/
import Derived.WalkKit
import Derived.WalkSpells
import Derived.WalkLawsBesides
import Derived.Laws.CopyOwn
import Derived.Deep.QuietTactic
import Derived.BigQuiet
import Derived.Outline
namespace Go.Proofs.Ytijpdeanbkodkaa
open Go.RowKit

/-- A fact behind a name: the walk does not take it for a rule. -/
theorem hid {p : Prop} (h : p) : Hid p := h

/-- A block that holds just these cells, none of them frozen. -/
def Blk (w : World) (b : Nat) (t : TypeId) (cs : List Value) : Prop := w.heap[b]? = some (.cells cs.toArray t (0, 0))

theorem Blk.cell {w : World} {b : Nat} {t : TypeId} {cs : List Value} (h : Blk w b t cs) {i : Nat} {v : Value} (hv : cs[i]? = some v) : w.cell? ⟨b, i, none⟩ = some v := by
  rw [cell_of_row w b i _ t _ h]; simpa using hv
theorem Blk.frozen {w : World} {b : Nat} {t : TypeId} {cs : List Value} (h : Blk w b t cs) (i : Nat) : w.frozen? ⟨b, i, none⟩ = false := frozen_of_row w b i _ t h
theorem Blk.lt {w : World} {b : Nat} {t : TypeId} {cs : List Value} (h : Blk w b t cs) : b < w.heap.size := (Array.getElem?_eq_some_iff.1 h).1
theorem Blk.set {w : World} {b : Nat} {t : TypeId} {cs : List Value} (h : Blk w b t cs) (i : Nat) (v : Value) : Blk (w.setCell ⟨b, i, none⟩ v) b t (cs.set i v) := by
  have := heap_setCell_same w b i _ t v h
  unfold Blk; rw [this]; simp
theorem Blk.setRow {w : World} {b : Nat} {t : TypeId} {cs : List Value} (h : Blk w b t cs) (ds : List Value) : Blk (w.setRow b ds.toArray) b t ds := setRow_heap w b _ _ t _ h
theorem Blk.new (w : World) (t : TypeId) (cs : List Value) : Blk (w.alloc (.cells cs.toArray t)) w.heap.size t cs := heap_alloc_new w _
theorem Blk.ne {w : World} {a b : Nat} {s t : TypeId} {cs ds : List Value} (h : Blk w a s cs) (k : Blk w b t ds) (hne : s ≠ t) : a ≠ b := by
  rintro rfl
  unfold Blk at h k
  rw [h] at k
  simp at k
  exact hne k.2

/-- What a call may have changed of what was there: the blocks of S alone; the streams are as they were. -/
structure Kp (S : Nat → Prop) (w w' : World) : Prop where
  os : w'.os = w.os
  tape : w'.tape = w.tape
  output : w'.output = w.output
  size : w.heap.size ≤ w'.heap.size
  block : ∀ k, k < w.heap.size → ¬ S k → w'.heap[k]? = w.heap[k]?

/-- Nothing that was there has changed. -/
def No : Nat → Prop := fun _ => False
theorem Kp.refl (S : Nat → Prop) (w : World) : Kp S w w := ⟨rfl, rfl, rfl, Nat.le_refl _, fun _ _ _ => rfl⟩
theorem Kp.trans {S T : Nat → Prop} {a b c : World} (h : Kp S a b) (k : Kp T b c) (hT : ∀ i, i < a.heap.size → T i → S i) : Kp S a c :=
  ⟨k.os.trans h.os, k.tape.trans h.tape, k.output.trans h.output, Nat.le_trans h.size k.size, fun i hi hn =>
    (k.block i (Nat.lt_of_lt_of_le hi h.size) (fun t => hn (hT i hi t))).trans (h.block i hi hn)⟩
theorem Kp.trans' {S : Nat → Prop} {a b c : World} (h : Kp S a b) (k : Kp S b c) : Kp S a c := h.trans k fun _ _ h => h
theorem Kp.mono {S T : Nat → Prop} {a b : World} (h : Kp S a b) (hT : ∀ i, i < a.heap.size → S i → T i) : Kp T a b :=
  ⟨h.os, h.tape, h.output, h.size, fun i hi hn => h.block i hi (fun t => hn (hT i hi t))⟩
theorem Kp.alloc (S : Nat → Prop) (w : World) (o : Obj) : Kp S w (w.alloc o) := ⟨rfl, rfl, rfl, by simp, fun k hk _ => Below.heap_alloc w o k hk⟩
theorem Kp.drew (S : Nat → Prop) (w : World) : Kp S w w.drew := ⟨rfl, rfl, rfl, Nat.le_refl _, fun _ _ _ => rfl⟩
theorem Kp.drewN (S : Nat → Prop) (w : World) (n : Nat) : Kp S w (w.drewN n) := ⟨rfl, rfl, rfl, Nat.le_refl _, fun _ _ _ => rfl⟩
theorem Kp.setCell {S : Nat → Prop} (w : World) (a : Addr) (v : Value) (h : a.block < w.heap.size → S a.block) : Kp S w (w.setCell a v) :=
  ⟨rfl, rfl, rfl, by simp [World.setCell], fun k hk hn => heap_setCell_other w a k v (fun e => hn (e ▸ h (e ▸ hk)))⟩
theorem Kp.setRow {S : Nat → Prop} (w : World) (g : Nat) (cs : Array Value) (h : g < w.heap.size → S g) : Kp S w (w.setRow g cs) :=
  ⟨rfl, rfl, rfl, by simp, fun k hk hn => setRow_other w g k cs (fun e => hn (e ▸ h (e ▸ hk)))⟩
theorem Kp.of_grown {S : Nat → Prop} {w w' : World} {row : Option Nat} (h : w.grownBy w' row) (hr : ∀ k, row = some k → k < w.heap.size → S k) : Kp S w w' :=
  ⟨h.os, h.tape, h.output, h.size, fun k hk hn => h.block k hk (fun e => hn (hr k e.symm hk))⟩
theorem Kp.to_grown {w w' : World} (h : Kp No w w') : w.grownBy w' none := ⟨h.os, h.tape, h.output, h.size, fun k hk _ => h.block k hk (fun x => x)⟩
theorem Kp.below {S : Nat → Prop} {w w' : World} {B : Nat} (h : Kp S w w') (hB : B ≤ w.heap.size) (hS : ∀ k, S k → B ≤ k) : Below B w w' :=
  ⟨h.os, h.tape, h.output, h.size, fun k hk => h.block k (by omega) (fun s => by have := hS k s; omega)⟩
theorem Kp.of_below {B : Nat} {w w' : World} (h : Below B w w') : Kp (fun k => B ≤ k) w w' := ⟨h.os, h.tape, h.output, h.size, fun k _ hn => h.block k (by omega)⟩
theorem Kp.blk {S : Nat → Prop} {w w' : World} (h : Kp S w w') {b : Nat} {t : TypeId} {cs : List Value} (hb : Blk w b t cs) (hn : ¬ S b) : Blk w' b t cs := by
  unfold Blk; rw [h.block b hb.lt hn]; exact hb
theorem Kp.cell {S : Nat → Prop} {w w' : World} (h : Kp S w w') {a : Addr} {v : Value} (hv : w.cell? a = some v) (hn : ¬ S a.block) : w'.cell? a = some v :=
  (World.cell?_of_block (h.block a.block (block_lt_of_cell hv) hn)).trans hv
theorem Kp.owns {S : Nat → Prop} {w w' : World} (h : Kp S w w') {base : Nat} {e : TypeId} {size : Nat} {v : Value} {n : Nat} {xs : List Value} (ho : w.ownsRow base e size v n xs) (hn : ∀ k, v.ownBlock = some k → ¬ S k) : w'.ownsRow base e size v n xs := by
  refine ⟨ho.1, ?_⟩
  rcases ho.2 with hn' | ⟨g, cap, cur, rfl, hb, hgg, rest⟩
  · exact .inl hn'
  · refine .inr ⟨g, cap, cur, rfl, hb, ?_, rest⟩
    rw [h.block g (Array.getElem?_eq_some_iff.1 hgg).1 (hn g rfl)]
    exact hgg
theorem owns_ne {w : World} {base : Nat} {e : TypeId} {size : Nat} {v : Value} {n : Nat} {xs : List Value} (ho : w.ownsRow base e size v n xs) {b : Nat} {t : TypeId} {cs : List Value} (hb : Blk w b t cs) (hne : e ≠ t) : v.ownBlock ≠ some b := by
  rcases ho.2 with ⟨rfl, _⟩ | ⟨g, cap, cur, rfl, _, hgg, _⟩
  · simp [Value.ownBlock]
  · intro h
    simp only [Value.ownBlock, Option.some.injEq] at h
    subst h
    unfold Blk at hb
    rw [hgg] at hb
    simp at hb
    exact hne hb.2

/-! ### Laws on make and copy, said of blocks that are known whole -/
/-- The cells of n elements, each the cells zs. -/
def reps (n : Nat) (zs : List Value) : List Value := (List.replicate n zs).flatten

theorem length_reps (n : Nat) (zs : List Value) : (reps n zs).length = n * zs.length := by simp [reps]

theorem reps_one (n : Nat) (z : Value) : reps n [z] = List.replicate n z := by
  induction n with
  | zero => rfl
  | succ n ih => simp only [reps, List.replicate_succ, List.flatten_cons] at *; rw [ih]; rfl

theorem getElem?_reps (n : Nat) (zs : List Value) (i : Nat) (h : i < n * zs.length) : (reps n zs)[i]? = zs[i % zs.length]? := by
  induction n generalizing i with
  | zero => simp at h
  | succ n ih =>
    have e : reps (n + 1) zs = zs ++ reps n zs := by simp [reps, List.replicate_succ]
    rw [e]
    by_cases hi : i < zs.length
    · rw [List.getElem?_append_left hi, Nat.mod_eq_of_lt hi]
    · rw [List.getElem?_append_right (by omega), ih (i - zs.length) (by rw [Nat.succ_mul] at h; omega)]
      have : i % zs.length = (i - zs.length) % zs.length := Nat.mod_eq_sub_mod (by omega)
      rw [this]

theorem madeCells_reps (zs : List Value) (n : Nat) : (madeCells zs.toArray (n * zs.length)) = (reps n zs).toArray := by
  apply Array.ext_getElem?
  intro i
  simp only [madeCells, Array.getElem?_map, Array.getElem?_range, List.getElem?_toArray]
  by_cases hi : i < n * zs.length
  · have hz : 0 < zs.length := Nat.pos_of_ne_zero (by intro h; rw [h] at hi; simp at hi)
    have hm : i % zs.length < zs.length := Nat.mod_lt _ hz
    rw [if_pos hi, getElem?_reps n zs i hi]
    simp [hm]
  · rw [if_neg hi, List.getElem?_eq_none (by rw [length_reps]; omega)]
    rfl

section
variable {P : Program} {w : World} {ops : Array Oper} {rest : List Oper} {o : Oper} {a : Act} {Q : Exit → Act → World → Prop}

/-- 'make([]T, n)'. -/
theorem wpl_make (hg : o.guard = none) (l c : Operand) (t : TypeId) (hop : o.op = Op.makeSlice t l c) (e : TypeId) (i : TypeInfo) (z : Value) (zs : List Value) (bytes : Nat)
    (h1 : P.underlying t = some (.slice e)) (h2 : P.info? e = some i) (h3 : i.zero = some z) (h4 : i.size = zs.length) (h5 : z.cells = zs.toArray) (h6 : i.bytes = bytes)
    (kl kc : IntKind) (n : Nat) (hl : a.eval l = .int kl n) (hc : a.eval c = .int kc n) (b2 : bytes * n ≤ 281474976710656) (b3 : n ≤ 281474976710656)
    (hK : ∀ w', Blk w' w.heap.size e (reps n zs) → Kp No w w' → wpList P ops Q rest (a.put o.dst (.slice (some ⟨w.heap.size, 0, none⟩) n n)) w') :
    wpList P ops Q (o :: rest) a w := by
  refine wpList_plain hg fun K hK' => ?_
  have hb : ((bytes * n : Nat) : Int) ≤ 281474976710656 := by omega
  rw [Int.natCast_mul, ← h6] at hb
  have hr := run_make (P := P) w t e i z h1 h2 h3 kl kc (n : Int) (n : Int) (by omega) (by omega) hb (by omega)
  unfold Oper.wp
  simp [execOp, hop, hl, hc, hr, Result.andThen, h4, h5, madeCells_reps]
  exact hK' _ _ (hK _ (Blk.new _ _ _) (Kp.alloc _ _ _))

/-- 'copy(dst, src)', dst from a known block's head on. -/
theorem wpl_copy (hgd : o.guard = none) (d s : Operand) (dT sT : TypeId)
    (ho : o.op = .call { callee := .builtin .copy, args := #[d, s], argTypes := #[dT, sT] }) (elem : TypeId) (hu : P.underlying dT = some (.slice elem)) (hsz : (P.info? elem).map (·.size) = some 1)
    (g dLen dCap : Nat) (sp : Option Addr) (sLen sCap : Nat) (hd : a.eval d = .slice (some ⟨g, 0, none⟩) dLen dCap) (hs : a.eval s = .slice sp sLen sCap)
    (t : TypeId) (cur : List Value) (hg : Blk w g t cur) (cs : List Value) (hn : cs.length = Nat.min sLen dLen)
    (hsrc : 0 < cs.length → ∃ ad, sp = some ad ∧ ∀ j v, cs[j]? = some v → w.cell? (ad.add j) = some v) (hfit : cs.length ≤ cur.length) (h1 : ∀ v ∈ cs, v.oneCell' = true)
    (h : ∀ w', Blk w' g t (cs ++ cur.drop cs.length) → Kp (· = g) w w' → wpList P ops Q rest (a.put o.dst (goInt cs.length)) w') :
    wpList P ops Q (o :: rest) a w := by
  refine wpList_plain hgd fun K hK => ?_
  by_cases h0 : cs.length = 0
  · obtain rfl : cs = [] := List.eq_nil_of_length_eq_zero h0
    have hrun := run_copy_none (P := P) w dT sT o.type elem (some ⟨g, 0, none⟩) sp dLen dCap sLen sCap hu hsz (by simpa using hn.symm)
    unfold Oper.wp
    simp [execOp, ho, resolve, invoke, builtin, hd, hs, hrun, Result.andThen]
    exact hK _ _ (h w (by simpa using hg) (Kp.refl _ _))
  · obtain ⟨ad, rfl, hc⟩ := hsrc (by omega)
    have hrun := run_copy_row (P := P) w dT sT o.type elem g 0 dLen dCap ad sLen sCap cur.toArray t cs hu hsz hg hn hc (by simpa using hfit) h1
    unfold Oper.wp
    simp [execOp, ho, resolve, invoke, builtin, hd, hs, hrun, Result.andThen]
    refine hK _ _ (h _ ?_ (Kp.setRow _ _ _ fun _ => rfl))
    have := hg.setRow (cs ++ cur.drop cs.length)
    simpa using this
end

/-- A source of numbers: a slice that came in, or any other: its first n elements. -/
def Src (w : World) (k : IntKind) (a : Option Addr) (n : Nat) (l : List Int) : Prop :=
  l.length = n ∧ (a = none → n = 0) ∧ ∀ ad, a = some ad → ∀ i v, (l.map (Value.int k))[i]? = some v → w.cell? (ad.add i) = some v

theorem Src.kp {w w' : World} {k : IntKind} {a : Option Addr} {n : Nat} {l : List Int} {S : Nat → Prop} (h : Src w k a n l) (hk : Kp S w w') (hn : ∀ ad, a = some ad → ¬ S ad.block) : Src w' k a n l :=
  ⟨h.1, h.2.1, fun ad e i v hv => hk.cell (h.2.2 ad e i v hv) (by have := hn ad e; unfold Addr.add; split <;> exact this)⟩
theorem Src.ints {w : World} {k : IntKind} {a : Option Addr} {n : Nat} {l : List Int} (h : Src w k a n l) : 0 < (l.map (Value.int k)).length → ∃ ad, a = some ad ∧ ∀ j v, (l.map (Value.int k))[j]? = some v → w.cell? (ad.add j) = some v := by
  intro hl
  cases a with
  | none => have := h.2.1 rfl; have := h.1; simp at hl; omega
  | some ad => exact ⟨ad, rfl, h.2.2 ad rfl⟩
theorem Src.cellN {w : World} {k : IntKind} {a : Option Addr} {n : Nat} {l : List Int} (h : Src w k a n l) (i : Nat) (hi : i < n) : ∃ ad, a = some ad ∧ w.cell? (ad.add i) = some (.int k (l[i]?.getD 0)) := by
  cases a with
  | none => have := h.2.1 rfl; omega
  | some ad => exact ⟨ad, rfl, h.2.2 ad rfl i _ (by have := h.1; simp [show i < l.length by omega])⟩
theorem Src.of_blk {w : World} {k : IntKind} {b : Nat} {t : TypeId} {l : List Int} (h : Blk w b t (l.map (Value.int k))) : Src w k (some ⟨b, 0, none⟩) l.length l :=
  ⟨rfl, fun e => (by cases e), fun ad e i v hv => by cases e; rw [Addr.add_lit]; exact h.cell (by simpa using hv)⟩

/-- A row of numbers that came in, as the proofs' outer frames say it: its elements are a source. -/
theorem Src.of_row {w : World} {k : IntKind} {a : Option Addr} {len cap : Nat} {zs : List Int}
    (h : (a = none ∧ len = 0 ∧ cap = 0 ∧ zs = []) ∨ ∃ x, a = some x ∧ len ≤ cap ∧ cap ≤ maxLen ∧ zs.length = cap ∧ (∀ i, i < zs.length → w.cell? (x.add i) = some (.int k (zs.getD i 0))) ∧ ∀ n ∈ zs, (Lit.int k n).wf = true) :
    ∃ l, Src w k a len l ∧ ∀ n ∈ l, (Lit.int k n).wf = true := by
  rcases h with ⟨rfl, rfl, rfl, rfl⟩ | ⟨x, rfl, hl, hm, hz, hc, hw⟩
  · exact ⟨[], ⟨rfl, fun _ => rfl, fun ad e => by cases e⟩, by simp⟩
  · refine ⟨zs.take len, ⟨by simp; omega, (fun e => by cases e), fun ad e i v hv => ?_⟩, fun n hn => hw n (List.mem_of_mem_take hn)⟩
    cases e
    rw [List.getElem?_map] at hv
    obtain ⟨y, hy, rfl⟩ := Option.map_eq_some_iff.1 hv
    rw [List.getElem?_take] at hy
    split at hy
    · rename_i hi
      rw [hc i (by omega)]
      simp [hy]
    · cases hy

/-- An argument's memory lies below the call's own. -/
theorem Src.lt {w : World} {k : IntKind} {a : Option Addr} {n : Nat} {l : List Int} (h : Src w k a n l) (hn : 0 < n) : ∀ ad, a = some ad → ad.block < w.heap.size := by
  intro ad e
  obtain ⟨ad', e', hc⟩ := h.cellN 0 hn
  rw [e] at e'
  cases e'
  exact block_lt_of_cell hc

/-- What lies below B is there behind whatever was done from B on. -/
theorem Src.above {w w' : World} {k : IntKind} {a : Option Addr} {n : Nat} {l : List Int} {B : Nat} (h : Src w k a n l) (hB : w.heap.size ≤ B) (hk : Kp (fun b => B ≤ b) w w') : Src w' k a n l :=
  ⟨h.1, h.2.1, fun ad e i v hv => by
    have hc := h.2.2 ad e i v hv
    exact hk.cell hc (by have := block_lt_of_cell hc; omega)⟩

#print axioms Kp.owns
end Go.Proofs.Ytijpdeanbkodkaa
