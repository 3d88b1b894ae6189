/-
  The walk of the law QueueRows.
-/
import Derived.Test.YtijpdeanbkodkaaQueueRow3
import Derived.Test.YtijpdeanbkodkaaQueueAlive
import Derived.Test.YtijpdeanbkodkaaRead
namespace Go.Proofs.Ytijpdeanbkodkaa
open Go.RowKit
set_option maxRecDepth 100000

theorem one_row {l m : List Int} {j : Nat} (h : [l][j]? = some m) : j = 0 ∧ m = l := by
  match j with
  | 0 => simp at h; exact ⟨rfl, h.symm⟩
  | j + 1 => simp at h
theorem one_out {l : List Int} {x : Int} (hx : x ∉ l) : ∀ (j : Nat) (m : List Int), [l][j]? = some m → x ∉ m := by
  intro j m h
  obtain ⟨_, rfl⟩ := one_row h
  exact hx
theorem without_out {l : List Int} {x : Int} (h : x ∉ l) : without l x = l := by
  unfold without
  rw [List.filter_eq_self]
  intro a ha
  simp
  exact fun e => h (e ▸ ha)
theorem without_mid {q s : List Int} {x : Int} (hq : x ∉ q) (hs : x ∉ s) : without (q ++ x :: s) x = q ++ s := by
  have h1 := without_out hq
  have h2 := without_out hs
  unfold without at h1 h2 ⊢
  rw [List.filter_append, h1, List.filter_cons]
  simp [h2]
theorem IsQ.nodup {w : World} {p tq eq n : Nat} {rows : List (List Int)} (h : IsQ w p tq eq n rows) {k : Nat} {l : List Int} (hk : rows[k]? = some l) : l.Nodup := by
  obtain ⟨_, _, _, h2⟩ := h
  exact h2.nd k l hk
theorem IsQ.many {w : World} {p tq eq n : Nat} {rows : List (List Int)} (h : IsQ w p tq eq n rows) {k : Nat} {l : List Int} (hk : rows[k]? = some l) : l.length ≤ n := by
  obtain ⟨_, _, _, h2⟩ := h
  exact h2.many hk

set_option maxHeartbeats 4000000 in
theorem queueRows_walk (a1 : Option Addr) (n1 c1 : Nat) (l : List Int) (a2 : Option Addr) (n2 c2 : Nat) (g : List Int) (w : World) (hl : SrcW .i64 w a1 n1 l) (_ : a1 = none → c1 = 0) (hg : SrcW .i64 w a2 n2 g) (_ : a2 = none → c2 = 0) :
    Calls Try.prog 14 #[.slice a1 n1 c1, .slice a2 n2 c2] w fun e w' => e = .returned (.bool true) ∧ Kp No w w' := by
  have HL := hid hl.1
  obtain rfl := hl.1.1
  have HG := hid hg.1
  obtain rfl := hg.1.1
  clear hl hg
  by_cases hbig : 100 < l.length ∨ 100 < g.length
  · rcases (show 100 < l.length ∨ (¬ 100 < l.length ∧ 100 < g.length) by omega) with h1 | ⟨h1, h2⟩
    all_goals
      clear hbig
      go_enter Try.func14, Try.ntmps14
      go_wp2_with fail
      refine (alive_queue _).mono ?_
      rintro e w1 ⟨rfl, hk⟩
      have HK := hid hk
      clear hk
      go_wp2_with fail
      refine (newQ_any 64 1 (by decide) (by decide) _).mono ?_
      rintro e w2 ⟨p, tq, eq, rfl, hi, _, _, _, hk⟩
      have HK2 := hid (HK.out.trans' hk)
      clear hi hk HK
      go_wp2_with fail
      go_ret
      exact ⟨rfl, HK2.out⟩
  have hl1 : l.length ≤ 100 := by omega
  have hg1 : g.length ≤ 100 := by omega
  clear hbig
  go_enter Try.func14, Try.ntmps14
  go_wp2_with fail
  refine (alive_queue _).mono ?_
  rintro e w1 ⟨rfl, hk⟩
  have HK := hid hk
  clear hk
  go_wp2_with fail
  refine (newQ_any 64 1 (by decide) (by decide) _).mono ?_
  rintro e w2 ⟨p, tq, eq, rfl, hi, hp, ht, he, hk⟩
  have HI := hid (show IsQ w2 p tq eq 64 [[]] from ⟨_, _, hi, QOK.new 64 1⟩)
  have HK2 := hid (HK.out.trans' hk)
  have hs1 := HK.out.size
  have hlt := hi.head.lt
  have hltt := hi.tie.lt
  have hlte := hi.endb.lt
  have hpw : w.heap.size ≤ p := by omega
  have htw : w.heap.size ≤ tq := by omega
  have hew : w.heap.size ≤ eq := by omega
  clear hi hk HK hp ht he hs1
  go_wp2_with fail
  go_loopw [7, 51] (fun v i wr => ∃ (k : Nat) (I : List Int), k ≤ l.length ∧ I.length ≤ k ∧ i = .int .i64 k ∧ IsQ wr p tq eq 64 [I] ∧ Ints wr v I ∧ (∀ b, v.ownBlock = some b → w2.heap.size ≤ b) ∧ w2.heap.size ≤ wr.heap.size ∧ Kp No w wr) (fun _ i _ => l.length - (intOf i).toNat)
  case atStart => exact ⟨0, [], Nat.zero_le _, Nat.le_refl _, rfl, HI.out.kpN (Kp.alloc No _ _), Sl.of_blk (by simpa using Blk.new w2 3 []) 1 0 rfl (by decide), (by intro b hb; simp [Value.ownBlock] at hb; omega), by simp, HK2.out.trans' (Kp.alloc _ _ _)⟩
  case round =>
    clear HI HK2
    obtain ⟨k, I, hk, hIk, rfl, hi, hv, hb, hs, hkp⟩ := hrel
    have HI := hid hi
    have HV := hid hv
    have HB := hid hb
    have HK := hid hkp
    clear hi hv hb hkp
    by_cases hlt : k < l.length
    · obtain ⟨ad, rfl, hc0⟩ := HL.out.cellN k hlt
      have hc := HK.out.cell hc0 id
      clear hc0
      generalize l[k]?.getD 0 = x at *
      by_cases hok : x ∉ I ∧ 0 ≤ x ∧ x < 64
      · have HO := hid hok
        clear hok
        go_wp2_with fail
        refine (pushQ_ok p tq eq 64 [I] 0 I x rfl HO.out.2.1 HO.out.2.2 (one_out HO.out.1) _ HI.out).mono ?_
        rintro e w3 ⟨rfl, hi3, hk3⟩
        have HI3 := hid (show IsQ w3 p tq eq 64 [I ++ [x]] from hi3)
        have HV3 := hid (Sl.kp hk3 HV.out (fun b hb e => by have := HB.out b hb; rcases e with e | e <;> omega))
        have HK3 := hid (HK.out.trans hk3 (by intro i hi he; rcases he with he | he <;> omega))
        have hs3 := hk3.size
        clear hi3 hk3 hc
        go_wp2_with (at_builtin; refine wpl_append rfl (.tmp 58) (.tmp 60) 23 rfl el23 _ I.length (I.map (Value.int .i64)) rfl (Sl.kp (Kp.alloc No _ _) HV3.out (fun _ _ => id)) (some ⟨w3.heap.size, 0, none⟩) 1 1 [.int .i64 x] rfl rfl (fun _ => ⟨_, rfl, cell_one_new _ _ _⟩) (by intro u hu; simp at hu; subst hu; rfl) (by unfold maxLen; omega) (by omega) (fun e => by cases e) ?_; intro v' w4 hv hk4 hm; have HV4 := hid (show Ints w4 v' (I ++ [x]) by unfold Ints; simpa using hv); have HKK := hid ((Kp.alloc _ w3 _).trans' hk4); have HM := hid (moved_ge hm HB.out (by simp; omega)); clear hv hk4 hm)
        have HI4 := hid (HI3.out.kp HKK.out (fun e => by have := HB.out _ e; omega) (fun e => by have := HB.out _ e; omega) (fun e => by have := HB.out _ e; omega))
        have HK4 := hid (HK3.out.trans HKK.out (by intro i hi he; have := HB.out i he; omega))
        have hs4 := HKK.out.size
        go_roundw
        case rel => exact ⟨k + 1, I ++ [x], by omega, by simp; omega, by go_num, HI4.out, HV4.out, HM.out, by omega, HK4.out⟩
        case measure => simp [intOf]; omega
      · have hno : (∃ (j : Nat) (m : List Int), [I][j]? = some m ∧ x ∈ m) ∨ (0 : Int) < 0 ∨ (([I] : List (List Int)).length : Int) ≤ 0 ∨ x < 0 ∨ ((64 : Nat) : Int) ≤ x := by
          by_cases hx : x ∈ I
          · exact .inl ⟨0, I, rfl, hx⟩
          · have hr : ¬ (0 ≤ x ∧ x < 64) := fun h => hok ⟨hx, h⟩
            simp; omega
        have HN := hid hno
        clear hok hno
        go_wp2_with fail
        refine (pushQ_no p tq eq 64 [I] 0 x HN.out _ HI.out).mono ?_
        rintro e w' ⟨rfl, hw'⟩
        rw [hw']; clear hw' w'
        go_wp2_with fail
        go_roundw
        case rel => exact ⟨k + 1, I, by omega, by omega, by go_num, HI.out, HV.out, HB.out, hs, HK.out⟩
        case measure => simp [intOf]; omega
    · go_wp2_with fail
      go_loopw [7, 65] (fun v i wr => ∃ (k : Nat) (I : List Int), k ≤ g.length ∧ i = .int .i64 k ∧ IsQ wr p tq eq 64 [I] ∧ Ints wr v I ∧ (∀ b, v.ownBlock = some b → w2.heap.size ≤ b) ∧ w2.heap.size ≤ wr.heap.size ∧ Kp No w wr) (fun _ i _ => g.length - (intOf i).toNat)
      case atStart => exact ⟨0, I, Nat.zero_le _, rfl, HI.out, HV.out, HB.out, hs, HK.out⟩
      case round =>
        clear HI HV HB HK hs
        obtain ⟨k2, J, hk2, rfl, hi, hv, hb, hs, hkp⟩ := hrel
        have HI := hid hi
        have HV := hid hv
        have HB := hid hb
        have HK := hid hkp
        have hJ : J.length ≤ 64 := hi.many (k := 0) rfl
        clear hi hv hb hkp
        by_cases hlt2 : k2 < g.length
        · obtain ⟨ad, rfl, hc0⟩ := HG.out.cellN k2 hlt2
          have hc := HK.out.cell hc0 id
          clear hc0
          generalize g[k2]?.getD 0 = x at *
          by_cases hx : x ∈ J
          · obtain ⟨q, s, hqs⟩ := List.append_of_mem hx
            have hnd := HI.out.nodup (k := 0) rfl
            rw [hqs] at hnd
            have hxq : x ∉ q := fun h => (List.nodup_append.1 hnd).2.2 x h x (by simp) rfl
            have hxs : x ∉ s := (List.nodup_cons.1 (List.nodup_append.1 hnd).2.1).1
            have HW := hid (show without J x = q ++ s by rw [hqs]; exact without_mid hxq hxs)
            have HX := hid (show x ∉ q ++ s by simp [hxq, hxs])
            have HQS := hid hqs
            have hJs : J.length = (q ++ s).length + 1 := by rw [hqs]; simp; omega
            clear hx hqs hnd hxq hxs
            go_wp2_with fail
            refine (dropQ_ok p tq eq 64 [J] 0 q x s (by rw [HQS.out]; rfl) _ HI.out).mono ?_
            rintro e w3 ⟨rfl, hi3, hk3⟩
            have HI3 := hid (show IsQ w3 p tq eq 64 [q ++ s] from hi3)
            have HV3 := hid (Sl.kp hk3 HV.out (fun b hb e => by have := HB.out b hb; rcases e with e | e <;> omega))
            have HK3 := hid (HK.out.trans hk3 (by intro i hi he; rcases he with he | he <;> omega))
            have hs3 := hk3.size
            clear hi3 hk3 hc
            go_wp2_with fail
            refine (without06 _ J x (by omega) _ HV3.out).mono ?_
            rintro e w4 ⟨v4, rfl, hv4, hb4, hk4⟩
            rw [HW.out] at hv4
            have HI4 := hid (HI3.out.kpN hk4)
            have HK4 := hid (HK3.out.trans' hk4)
            have hs4 := hk4.size
            have HB4 := hid (show ∀ b, v4.ownBlock = some b → w2.heap.size ≤ b from fun b hb => by have := hb4 b hb; omega)
            have HV4 := hid hv4
            obtain ⟨so4, cap4, hv4e, _, _⟩ := Sl.form hv4
            subst hv4e
            have hrow : rowAt [q ++ s] 0 = q ++ s := rowAt_nat (k := 0) rfl
            have HR := hid hrow
            have hne : (((q ++ s).length : Int) != ((q ++ s).length : Int)) = false := by simp
            clear hv4 hb4 hk4 hrow HW HV3 HI3
            generalize q ++ s = J2 at *
            go_wp2_with fail
            refine (dropQ_no p tq eq 64 [J2] x (one_out HX.out) _ HI4.out).mono ?_
            rintro e w' ⟨rfl, hw'⟩
            rw [hw']; clear hw' w'
            go_wp2_with fail
            refine (lenQ_row p tq eq 64 [J2] 0 _ HI4.out).mono ?_
            rintro e w' ⟨rfl, hw'⟩
            rw [hw', HR.out]; clear hw' w'
            go_wp2_with fail
            go_roundw
            case rel => exact ⟨k2 + 1, J2, by omega, by go_num, HI4.out, HV4.out, HB4.out, by omega, HK4.out⟩
            case measure => simp [intOf]; omega
          · have HX := hid hx
            have hrow : rowAt [J] 0 = J := rowAt_nat (k := 0) rfl
            have HR := hid hrow
            have hne : ((J.length : Int) != (J.length : Int)) = false := by simp
            obtain ⟨so4, cap4, hv4e, _, _⟩ := Sl.form HV.out
            subst hv4e
            clear hx hrow
            go_wp2_with fail
            refine (dropQ_no p tq eq 64 [J] x (one_out HX.out) _ HI.out).mono ?_
            rintro e w' ⟨rfl, hw'⟩
            rw [hw']; clear hw' w'
            go_wp2_with fail
            refine (dropQ_no p tq eq 64 [J] x (one_out HX.out) _ HI.out).mono ?_
            rintro e w' ⟨rfl, hw'⟩
            rw [hw']; clear hw' w'
            go_wp2_with fail
            refine (lenQ_row p tq eq 64 [J] 0 _ HI.out).mono ?_
            rintro e w' ⟨rfl, hw'⟩
            rw [hw', HR.out]; clear hw' w'
            go_wp2_with fail
            go_roundw
            case rel => exact ⟨k2 + 1, J, by omega, by go_num, HI.out, HV.out, HB.out, hs, HK.out⟩
            case measure => simp [intOf]; omega
        · obtain ⟨so4, cap4, hv4e, _, _⟩ := Sl.form HV.out
          subst hv4e
          go_wp2_with fail
          go_loopw [88] (fun i wr => ∃ (k : Nat), k ≤ J.length ∧ i = .int .i64 k ∧ IsQ wr p tq eq 64 [J.drop k] ∧ Ints wr (.slice so4 J.length cap4) J ∧ Kp No w wr) (fun i _ => J.length - (intOf i).toNat)
          case atStart => exact ⟨0, Nat.zero_le _, rfl, HI.out, HV.out, HK.out⟩
          case round =>
            clear HI HV HK hs
            obtain ⟨k3, hk3, rfl, hi, hv, hkp⟩ := hrel
            have HI := hid hi
            have HV := hid hv
            have HK := hid hkp
            clear hi hv hkp
            by_cases hlt3 : k3 < J.length
            · obtain ⟨gb, hso⟩ := Sl.at_ HV.out (by omega)
              subst hso
              have hc := Sl.cell HV.out (j := k3) (u := .int .i64 J[k3]) (by simp [hlt3])
              have hdr : J.drop k3 = J[k3] :: J.drop (k3 + 1) := List.drop_eq_getElem_cons hlt3
              have HD := hid hdr
              clear hdr
              generalize J[k3] = x at *
              have hxx : (x != x) = false := by simp
              go_wp2_with fail
              refine (popQ_cons p tq eq 64 [J.drop k3] 0 x (J.drop (k3 + 1)) (by rw [HD.out]; rfl) _ HI.out).mono ?_
              rintro e w3 ⟨rfl, hi3, hk3'⟩
              have HI3 := hid (show IsQ w3 p tq eq 64 [J.drop (k3 + 1)] from hi3)
              have HV3 := hid (Sl.kp hk3' HV.out (fun b hb e => by have := HB.out b hb; rcases e with e | e <;> omega))
              have HK3 := hid (HK.out.trans hk3' (by intro i hi he; rcases he with he | he <;> omega))
              clear hi3 hk3' hc
              go_wp2_with fail
              go_roundw
              case rel => exact ⟨k3 + 1, by omega, by go_num, HI3.out, HV3.out, HK3.out⟩
              case measure => simp [intOf]; omega
            · have hdn : J.drop k3 = [] := List.drop_eq_nil_of_le (by omega)
              have HN := hid (show rowAt [J.drop k3] 0 = [] by rw [hdn]; rfl)
              clear hdn
              go_wp2_with fail
              refine (popQ_nil p tq eq 64 [J.drop k3] 0 HN.out _ HI.out).mono ?_
              rintro e w' ⟨rfl, hw'⟩
              rw [hw']; clear hw' w'
              go_wp2_with fail
              go_ret
              exact ⟨rfl, HK.out⟩
end Go.Proofs.Ytijpdeanbkodkaa
