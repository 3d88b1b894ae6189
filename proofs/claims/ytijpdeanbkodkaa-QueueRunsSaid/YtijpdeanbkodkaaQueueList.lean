/-
  The contract of queue.List.
-/
import Derived.Test.YtijpdeanbkodkaaQueueNewC
namespace Go.Proofs.Ytijpdeanbkodkaa
open Go.RowKit
set_option maxRecDepth 100000

def lenV : Value → Nat | .slice _ n _ => n | _ => 0

set_option maxHeartbeats 1000000 in
theorem list_no (p tq eq : Nat) (ties ends : List (Int × Int × Int)) (k : Int) (hk : k < 0 ∨ ends.length ≤ k ∨ ∃ a b, ends[k.toNat]? = some (a, b, 0)) (w : World) (h : IsQR w p tq eq ties ends) :
    Calls Try.prog 70 #[.pointer (some ⟨p, 0, none⟩), .int .i64 k] w fun e w' => e = .returned (.slice none 0 0) ∧ w' = w := by
  have H := hid h
  have HKK := hid hk
  clear h hk
  go_enter Try.func70, Try.ntmps70
  go_wp2_with fail
  refine (first_no p tq eq ties ends k HKK.out _ H.out).mono ?_
  rintro e w' ⟨rfl, hw'⟩
  rw [hw']; clear hw' w'
  go_wp2_with fail
  go_loopw [5, 6] (fun v x wr => v = .slice none 0 0 ∧ x = .int .i64 0 ∧ wr = w) (fun _ _ _ => 0)
  case atStart => exact ⟨rfl, rfl, rfl⟩
  case round =>
    obtain ⟨rfl, rfl, rfl⟩ := hrel
    go_wp2_with fail
    go_ret
    exact ⟨rfl, rfl⟩

set_option maxHeartbeats 1000000 in
theorem list_yes (p tq eq n : Nat) (ties ends : List (Int × Int × Int)) (rows : List (List Int)) (k : Nat) (row : List Int) (hq : QOK n ties ends rows) (hrow : rows[k]? = some row) (hne : row ≠ []) (hl64 : row.length ≤ 64) (w : World) (h : IsQR w p tq eq ties ends) :
    Calls Try.prog 70 #[.pointer (some ⟨p, 0, none⟩), .int .i64 k] w fun e w' => ∃ v, e = .returned v ∧ Ints w' v row ∧ (∀ b, v.ownBlock = some b → w.heap.size ≤ b) ∧ Kp No w w' := by
  have H := hid h
  have HQ := hid hq
  have HR := hid hrow
  have hE := hq.en k row hrow
  have HE := hid hE
  have hpos : 0 < row.length := List.length_pos_iff.2 hne
  have c0 := h.head.cell (i := 0) rfl
  have hlt := h.lt
  have C0 : Hid (∀ w', Kp No w w' → w'.cell? ⟨p, 0, none⟩ = some (.slice (some ⟨tq, 0, none⟩) ties.length ties.length)) := fun w' hk => hk.cell c0 id
  clear h hq hrow hE c0
  go_enter Try.func70, Try.ntmps70
  go_wp2_with fail
  refine (first_yes p tq eq ties ends k (headD row) (lastD row) row.length hpos HE.out _ H.out).mono ?_
  rintro e w' ⟨rfl, hw'⟩
  rw [hw']; clear hw' w'
  go_wp2_with fail
  go_loopw [5, 6] (fun v x wr => ∃ (q s : List Int), row = q ++ s ∧ x = .int .i64 (headD s) ∧ Ints wr v q ∧ (∀ b, v.ownBlock = some b → w.heap.size ≤ b) ∧ Kp No w wr) (fun v _ _ => row.length - lenV v)
  case atStart => exact ⟨[], row, rfl, rfl, Sl.nil _ _ _, (by simp [Value.ownBlock]), Kp.refl _ _⟩
  case round =>
    obtain ⟨q, s, hqs, rfl, hv, hb, hkp⟩ := hrel
    have HV := hid hv
    have HB := hid hb
    have HK := hid hkp
    have hlv : lenV u5 = q.length := by obtain ⟨so, cap, hu5, _, _⟩ := Sl.form hv; rw [hu5]; rfl
    clear hv hb hkp
    cases s with
    | nil =>
      have hh : headD [] = -1 := rfl
      rw [hh]
      rw [List.append_nil] at hqs
      clear hlv
      go_wp2_with fail
      go_ret
      exact ⟨_, rfl, by rw [hqs]; exact HV.out, HB.out, HK.out⟩
    | cons z s =>
      obtain ⟨z0, zn, zt⟩ := HQ.out.ti k q z s (by rw [HR.out, hqs])
      have hZ : ∃ Z : Nat, z = (Z : Int) := ⟨z.toNat, by omega⟩
      obtain ⟨Z, rfl⟩ := hZ
      simp only [Int.toNat_natCast] at zt
      have hz1 : ((Z : Int) != -1) = true := by simp <;> omega
      have hzl : Z < ties.length := (List.getElem?_eq_some_iff.1 zt).1
      have hlen : row.length = q.length + (s.length + 1) := by rw [hqs]; simp
      have HLEN := hid hlen
      have hql : q.length < 64 := by omega
      have ZT := hid zt
      have HQS := hid hqs
      clear z0 zn zt hlen hqs
      rw [headD_cons]
      go_wp2_with (at_builtin; refine wpl_append rfl (.tmp 27) (.tmp 29) 23 rfl el23 _ q.length (q.map (Value.int .i64)) rfl (Sl.kp (Kp.alloc No _ _) HV.out (fun _ _ => id)) (some ⟨wr.heap.size, 0, none⟩) 1 1 [.int .i64 Z] rfl rfl (fun _ => ⟨_, rfl, cell_one_new _ _ _⟩) (by intro u hu; simp at hu; subst hu; rfl) (by unfold maxLen; omega) (by omega) (fun e => by cases e) ?_; intro v' w1 hv hk1 hm; have HV1 := hid (show Ints w1 v' (q ++ [(Z : Int)]) by unfold Ints; simpa using hv); have HK1 := hid (HK.out.trans ((Kp.alloc _ wr _).trans' hk1) (by intro i hi he; have := HB.out i he; omega)); have HM := hid (moved_ge hm HB.out (by have := HK.out.size; simp; omega)); have d0 := C0.out _ HK1.out; obtain ⟨_, d1, _⟩ := (H.out.kpN HK1.out).tieC ZT.out; clear hv hk1 hm)
      go_roundw
      case rel => exact ⟨q ++ [(Z : Int)], s, by rw [HQS.out]; simp, rfl, HV1.out, HM.out, HK1.out⟩
      case measure =>
        obtain ⟨so, cap, hu, _, _⟩ := Sl.form HV1.out
        have := HLEN.out
        subst hu
        simp [lenV] at hlv ⊢
        omega
end Go.Proofs.Ytijpdeanbkodkaa
