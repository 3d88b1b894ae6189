/-
  The walk of the law RingRows.
-/
import Derived.Test.YtijpdeanbkodkaaRingOf
import Derived.Test.YtijpdeanbkodkaaRead
import Derived.Deep.DeepCutAuto
import Derived.Deep.CutBlock
namespace Go.Proofs.Ytijpdeanbkodkaa
open Go.RowKit
set_option maxRecDepth 100000

theorem moved_ne {W : World} {u v o : Value} (hm : Moved W u v) (hd : ∀ b, u.ownBlock = some b → o.ownBlock ≠ some b) (hlt : ∀ b, o.ownBlock = some b → b < W.heap.size) : ∀ b, v.ownBlock = some b → o.ownBlock ≠ some b := by
  intro b hb he
  rcases hm with h | ⟨c, h, hc⟩
  · exact hd b (h ▸ hb) he
  · rw [h] at hb
    cases hb
    have := hlt b he
    omega
theorem Row.of_snoc {w : World} {v : Value} {xs : List Int} {x : Int} (h : Sl w 2 1 v (xs.length + 1) (xs.map (Value.int .i64) ++ [.int .i64 x])) : Row w v (xs ++ [x]) := by unfold Row; simpa using h
def lenOf : Value → Nat | .slice _ n _ => n | _ => 0
theorem Row.lenOf {w : World} {v : Value} {xs : List Int} (h : Row w v xs) : lenOf v = xs.length := by
  obtain ⟨so, c, rfl, _⟩ := h.src
  rfl

set_option maxHeartbeats 4000000 in
theorem ringRows_walk (x : Int) (a1 : Option Addr) (n1 c1 : Nat) (l : List Int) (a2 : Option Addr) (n2 c2 : Nat) (gets : List Bool) (w : World) (hx : (Lit.int .u8 x).wf = true) (hl : SrcW .i64 w a1 n1 l) (_ : a1 = none → c1 = 0) (ha : Bools w a2 n2 gets) (_ : a2 = none → c2 = 0) :
    Calls Try.prog 8 #[.int .u8 x, .slice a1 n1 c1, .slice a2 n2 c2] w fun e w' => e = .returned (.bool true) ∧ Kp No w w' := by
  have HL := hid hl.1
  obtain rfl := hl.1.1
  have HA := hid ha
  obtain rfl := ha.1
  clear hl ha
  have hx0 : 0 ≤ x ∧ x ≤ 255 := by simp only [Lit.wf, Bool.and_eq_true, decide_eq_true_eq] at hx; exact hx
  obtain ⟨hx1, hx2⟩ := hx0
  obtain ⟨X, rfl⟩ := Int.eq_ofNat_of_zero_le hx1
  obtain ⟨N, hN⟩ : ∃ N, N = X % 65 := ⟨_, rfl⟩
  have hN64 : N ≤ 64 := by omega
  have htm : (X : Int).tmod 65 = (N : Int) := by rw [hN]; rfl
  clear hx hN
  by_cases hlen : 300 < l.length
  · go_enter Try.func8, Try.ntmps8
    go_wp2_with (go_at_call 44; refine (alive_ring _).mono ?_; rintro e w1 ⟨rfl, hk⟩; have HK := hid hk; clear hk)
    go_ret
    exact ⟨rfl, HK.out⟩
  go_enter Try.func8, Try.ntmps8
  go_wp2_with fail
  refine (alive_ring _).mono ?_
  rintro e w1 ⟨rfl, hk⟩
  have HK := hid hk
  clear hk
  go_wp2_with fail
  refine (new_ring N hN64 _).mono ?_
  rintro e w2 ⟨p, q, rfl, hi, hp, hq, hk⟩
  have HK2 := hid (HK.out.trans' hk)
  have hs1 := HK.out.size
  have hpB : w.heap.size ≤ p := by omega
  have hqB : w.heap.size ≤ q := by omega
  have HI := hid hi
  have hpq := hi.ltp
  obtain ⟨hpl, hql⟩ := hpq
  clear hi hk hp hq HK hs1
  go_wp2_with fail
  go_loopw [10, 11, 41] (fun vi vo i wr => ∃ (k : Nat) (O row : List Int), k ≤ l.length ∧ i = .int .i64 k ∧ IsRing wr p q N row ∧ Row wr vi (O ++ row) ∧ Row wr vo O ∧ (∀ b, vi.ownBlock = some b → w2.heap.size ≤ b) ∧ (∀ b, vo.ownBlock = some b → w2.heap.size ≤ b) ∧ (∀ b, vi.ownBlock = some b → vo.ownBlock ≠ some b) ∧ (O ++ row).length ≤ k ∧ w2.heap.size ≤ wr.heap.size ∧ Kp No w wr) (fun _ _ i _ => l.length - (intOf i).toNat)
  case atStart =>
    refine ⟨0, [], [], Nat.zero_le _, rfl, HI.out.kpN ((Kp.alloc No _ _).trans' (Kp.alloc No _ _)), Sl.of_blk ((Blk.new w2 2 []).kp' (Kp.alloc No _ _)) 1 0 rfl (by decide), Sl.of_blk (by simpa using Blk.new (w2.alloc (.cells #[] 2)) 2 []) 1 0 rfl (by decide), ?_, ?_, ?_, Nat.le_refl _, by simp; omega, HK2.out.trans' ((Kp.alloc No _ _).trans' (Kp.alloc No _ _))⟩
    all_goals (intro b hb; simp [Value.ownBlock] at hb ⊢; omega)
  case round =>
    clear HI HK2
    obtain ⟨k, O, row, hk, rfl, hi, hvi, hvo, hbi, hbo, hd, hlk, hs, hkp⟩ := hrel
    have HI := hid hi
    have HVI := hid hvi
    have HVO := hid hvo
    have HBI := hid hbi
    have HBO := hid hbo
    have HD := hid hd
    have HK := hid hkp
    have hle := hi.len
    have hlk2 : O.length + row.length ≤ k := by simpa using hlk
    clear hi hvi hvo hbi hbo hd hkp hlk
    by_cases hlt : k < l.length
    · obtain ⟨ad, rfl, hc0⟩ := HL.out.cellN k hlt
      have hc := HK.out.cell hc0 id
      clear hc0
      generalize l[k]?.getD 0 = xv at *
      obtain ⟨ys, b, hr⟩ : ∃ ys b, putR N row xv = (ys, b) := ⟨_, _, rfl⟩
      have HR := hid hr
      clear hr
      go_wp2_with fail
      refine (put_any p q N row xv ys b HR.out _ HI.out).mono ?_
      rintro e w4 ⟨rfl, hi4, hk4⟩
      have HI4 := hid hi4
      have HVI4 := hid (HVI.out.kp hk4 (fun b hb e => by have := HBI.out b hb; rcases e with e | e <;> omega))
      have HVO4 := hid (HVO.out.kp hk4 (fun b hb e => by have := HBO.out b hb; rcases e with e | e <;> omega))
      have HK4 := hid (HK.out.trans hk4 (by intro i hi he; rcases he with he | he <;> omega))
      have hs4 := hk4.size
      clear hi4 hk4 hc
      go_upto_if 48 with (fail)
      go_cut [10] (fun vi wx => ∃ (row' : List Int), IsRing wx p q N row' ∧ Row wx vi (O ++ row') ∧ Row wx u11 O ∧ (∀ b, vi.ownBlock = some b → w2.heap.size ≤ b) ∧ (∀ b, vi.ownBlock = some b → u11.ownBlock ≠ some b) ∧ O.length + row'.length ≤ k + 1 ∧ w2.heap.size ≤ wx.heap.size ∧ Kp No w wx)
      case first =>
        by_cases hf : row.length < N
        · have hr : putR N row xv = (row ++ [xv], true) := by unfold putR; rw [if_pos hf]
          rw [HR.out] at hr
          obtain ⟨rfl, rfl⟩ := Prod.mk.inj hr
          clear hr
          have hOr : (O ++ row).length ≤ 300 := by simp; omega
          go_wp2_with (at_builtin; refine wpl_append rfl (.tmp 49) (.tmp 51) 55 rfl el55 _ (O ++ row).length ((O ++ row).map (Value.int .i64)) rfl (Sl.kp (Kp.alloc No _ _) HVI4.out (fun _ _ => id)) (some ⟨w4.heap.size, 0, none⟩) 1 1 [.int .i64 xv] rfl rfl (fun _ => ⟨_, rfl, cell_one_new _ _ _⟩) (by intro u hu; simp at hu; subst hu; rfl) (by unfold maxLen; omega) (by omega) (fun e => by cases e) ?_; intro v5 w5 hv hk5 hm; have HVI5 := hid (Row.of_snoc hv); have HKK := hid ((Kp.alloc _ w4 _).trans' hk5); have HMN := hid (moved_ne hm HD.out (fun b hb => by have := Sl.lt HVO4.out hb; simp; omega)); have HM := hid (moved_ge hm HBI.out (by simp; omega)); clear hv hk5 hm)
          go_meet
          refine ⟨row ++ [xv], HI4.out.kp HKK.out (fun e => by have := HBI.out _ e; omega) (fun e => by have := HBI.out _ e; omega), by rw [← List.append_assoc]; exact HVI5.out, HVO4.out.kp HKK.out (fun b hb e => HD.out b e hb), HM.out, HMN.out, by simp; omega, by have := HKK.out.size; omega, HK4.out.trans HKK.out (by intro i hi he; have := HBI.out i he; omega)⟩
        · have hr : putR N row xv = (row, false) := by unfold putR; rw [if_neg hf]
          rw [HR.out] at hr
          obtain ⟨rfl, rfl⟩ := Prod.mk.inj hr
          have hb : ((ys.length : Int) == (N : Int)) = true := by simp; omega
          have HB := hid hb
          clear hr hb
          go_wp2_with fail
          refine (full_ring p q N ys true HB.out _ HI4.out).mono ?_
          rintro e w' ⟨rfl, m, hw'⟩
          rw [hw']; clear hw' w'
          go_wp2_with fail
          go_meet
          exact ⟨ys, HI4.out.kpN (Kp.drewN _ _ _), HVI4.out.kpN (Kp.drewN _ _ _), HVO4.out.kpN (Kp.drewN _ _ _), HBI.out, HD.out, by omega, by simp; omega, HK4.out.trans' (Kp.drewN _ _ _)⟩
      case rest =>
        obtain ⟨row', hi', hvi', hvo', hbi', hd', hlk', hs', hk'⟩ := hcut
        clear HI HVI HVO HBI HD HK hle hlk2 hs HI4 HVI4 HVO4 HK4 hs4 HR w4
        have HI := hid hi'
        have HVI := hid hvi'
        have HVO := hid hvo'
        have HBI := hid hbi'
        have HD := hid hd'
        have HK := hid hk'
        have hle := hi'.len
        clear hi' hvi' hvo' hbi' hd' hk'
        obtain ⟨wz, hwz⟩ : ∃ wz, wz = wc := ⟨_, rfl⟩
        go_upto_region 17 with (fail)
        go_cut [65] (fun t wx => (∃ gv : Bool, t = .bool gv) ∧ wx = wz)
        case first =>
          by_cases hg : k < gets.length
          · obtain ⟨gb, go, rfl, hgc⟩ := HA.out.2 (by omega)
            have hcg := HK.out.cell (hgc k gets[k] (by simp [hg])) id
            clear hgc
            go_wp2_with fail
            go_meet
            exact ⟨⟨_, rfl⟩, hwz.symm⟩
          · go_wp2_with fail
            go_meet
            exact ⟨⟨_, rfl⟩, hwz.symm⟩
        case rest =>
        obtain ⟨⟨gv, rfl⟩, hwx⟩ := hcut
        rw [hwz] at hwx
        subst hwx
        clear hwz wz
        go_upto_if 65 with (fail)
        go_cut [11] (fun vo wx => ∃ (O' row2 : List Int), O' ++ row2 = O ++ row' ∧ IsRing wx p q N row2 ∧ Row wx u10 (O ++ row') ∧ Row wx vo O' ∧ (∀ b, vo.ownBlock = some b → w2.heap.size ≤ b) ∧ (∀ b, u10.ownBlock = some b → vo.ownBlock ≠ some b) ∧ w2.heap.size ≤ wx.heap.size ∧ Kp No w wx)
        case first =>
          cases gv with
          | true =>
            cases row' with
            | nil =>
              go_wp2_with fail
              refine (get_any p q N [] [] 0 false rfl _ HI.out).mono ?_
              rintro e w4 ⟨rfl, hi4, hk4⟩
              have HI4 := hid hi4
              have HVI4 := hid (HVI.out.kp hk4 (fun b hb e => by have := HBI.out b hb; rcases e with e | e <;> omega))
              have HVO4 := hid (HVO.out.kp hk4 (fun b hb e => by have := HBO.out b hb; rcases e with e | e <;> omega))
              have HK4 := hid (HK.out.trans hk4 (by intro i hi he; rcases he with he | he <;> omega))
              have hs4 := hk4.size
              clear hi4 hk4
              go_wp2_with fail
              go_meet
              exact ⟨O, [], rfl, HI4.out, HVI4.out, HVO4.out, HBO.out, HD.out, by omega, HK4.out⟩
            | cons y r =>
              go_wp2_with fail
              refine (get_any p q N (y :: r) r y true rfl _ HI.out).mono ?_
              rintro e w4 ⟨rfl, hi4, hk4⟩
              have HI4 := hid hi4
              have HVI4 := hid (HVI.out.kp hk4 (fun b hb e => by have := HBI.out b hb; rcases e with e | e <;> omega))
              have HVO4 := hid (HVO.out.kp hk4 (fun b hb e => by have := HBO.out b hb; rcases e with e | e <;> omega))
              have HK4 := hid (HK.out.trans hk4 (by intro i hi he; rcases he with he | he <;> omega))
              have hs4 := hk4.size
              clear hi4 hk4
              simp only [List.length_cons] at hlk'
              have hOl : O.length ≤ 300 := by omega
              go_wp2_with (at_builtin; refine wpl_append rfl (.tmp 72) (.tmp 74) 55 rfl el55 _ O.length (O.map (Value.int .i64)) rfl (Sl.kp (Kp.alloc No _ _) HVO4.out (fun _ _ => id)) (some ⟨w4.heap.size, 0, none⟩) 1 1 [.int .i64 y] rfl rfl (fun _ => ⟨_, rfl, cell_one_new _ _ _⟩) (by intro u hu; simp at hu; subst hu; rfl) (by unfold maxLen; omega) (by omega) (fun e => by cases e) ?_; intro v5 w5 hv hk5 hm; have HVO5 := hid (show Row w5 v5 (O ++ [y]) by unfold Row; simpa using hv); have HKK := hid ((Kp.alloc _ w4 _).trans' hk5); have HMN := hid (moved_ne hm (fun b hb e => HD.out b e hb) (fun b hb => by have := Sl.lt HVI4.out hb; simp; omega)); have HM := hid (moved_ge hm HBO.out (by simp; omega)); clear hv hk5 hm)
              go_meet
              exact ⟨O ++ [y], r, by simp, HI4.out.kp HKK.out (fun e => by have := HBO.out _ e; omega) (fun e => by have := HBO.out _ e; omega), HVI4.out.kp HKK.out (fun b hb e => HD.out b hb e), HVO5.out, HM.out, fun b hb e => HMN.out b e hb, by have := HKK.out.size; omega, HK4.out.trans HKK.out (by intro i hi he; have := HBO.out i he; omega)⟩
          | false =>
            go_wp2_with fail
            go_meet
            exact ⟨O, row', rfl, HI.out, HVI.out, HVO.out, HBO.out, HD.out, by omega, HK.out⟩
        case rest =>
          obtain ⟨O', row2, heq, hi', hvi', hvo', hbo', hd', hs2, hk'⟩ := hcut
          rw [← heq] at hvi'
          have hlen2 : O'.length + row2.length = O.length + row'.length := by have := congrArg List.length heq; simpa using this
          have HBIB := HBI
          clear HI HVI HVO HBO HD HK hle heq
          have HI := hid hi'
          have HVI := hid hvi'
          have HVO := hid hvo'
          have HBO := hid hbo'
          have HD := hid hd'
          have HK := hid hk'
          have hle := hi'.len
          clear hi' hvi' hvo' hbo' hd' hk'
          obtain ⟨si, ci, rfl, _⟩ := HVI.out.src
          obtain ⟨so, co, rfl, _⟩ := HVO.out.src
          have hsub : (((O' ++ row2).length : Nat) : Int) - (O'.length : Int) = (row2.length : Int) := by simp; omega
          have hne : ((row2.length : Int) != (row2.length : Int)) = false := by simp
          have hll : (O' ++ row2).length ≤ 301 := by simp; omega
          have hll2 : (O' ++ row2).length ≤ k + 1 := by simp; omega
          generalize hil : (O' ++ row2).length = il at *
          go_wp2_with fail
          refine (len_ring p q N row2 _ HI.out).mono ?_
          rintro e w' ⟨rfl, hw'⟩
          rw [hw']; clear hw' w'
          go_wp2_with fail
          refine (len_ring p q N row2 _ HI.out).mono ?_
          rintro e w' ⟨rfl, hw'⟩
          rw [hw']; clear hw' w'
          go_wp2_with fail
          go_roundw
          case rel => exact ⟨k + 1, O', row2, by omega, by go_num, HI.out, HVI.out, HVO.out, HBIB.out, HBO.out, HD.out, by omega, by omega, HK.out⟩
          case measure => simp [intOf]; omega
    · obtain ⟨ys, y, b, hr⟩ : ∃ ys y b, getR row = (ys, y, b) := ⟨_, _, _, rfl⟩
      have HR := hid hr
      have hIl : (O ++ row).length ≤ 300 := by simp; omega
      obtain ⟨I, hI⟩ : ∃ I, I = O ++ row := ⟨_, rfl⟩
      have HII := hid hI
      rw [← hI] at HVI hIl
      clear hr hI
      go_wp2_with fail
      refine (get_any p q N row ys y b HR.out _ HI.out).mono ?_
      rintro e w4 ⟨rfl, hi4, hk4⟩
      have HI4 := hid hi4
      have HVI4 := hid (HVI.out.kp hk4 (fun b hb e => by have := HBI.out b hb; rcases e with e | e <;> omega))
      have HVO4 := hid (HVO.out.kp hk4 (fun b hb e => by have := HBO.out b hb; rcases e with e | e <;> omega))
      have HK4 := hid (HK.out.trans hk4 (by intro i hi he; rcases he with he | he <;> omega))
      have hs4 := hk4.size
      clear hi4 hk4
      go_wp2_with fail
      go_loopw [11, 16, 17] (fun vo xx ok wr => ∃ (O' : List Int) (y : Int) (b : Bool) (row0 row1 : List Int), getR row0 = (row1, y, b) ∧ I = O' ++ row0 ∧ xx = .int .i64 y ∧ ok = .bool b ∧ IsRing wr p q N row1 ∧ Row wr u10 I ∧ Row wr vo O' ∧ (∀ b, vo.ownBlock = some b → w2.heap.size ≤ b) ∧ (∀ b, u10.ownBlock = some b → vo.ownBlock ≠ some b) ∧ w2.heap.size ≤ wr.heap.size ∧ Kp No w wr) (fun vo _ _ _ => I.length + 1 - lenOf vo)
      case atStart => exact ⟨O, y, b, row, ys, HR.out, HII.out, rfl, rfl, HI4.out, HVI4.out, HVO4.out, HBO.out, HD.out, by omega, HK4.out⟩
      case round =>
        have HBI2 := HBI
        clear HI HVI HVO HBO HD HK HI4 HVI4 HVO4 HK4 HR HII hs4 hs hle hlk2
        obtain ⟨O', y', b', row0, row1, hr, hI, rfl, rfl, hi, hvi, hvo, hbo, hd, hs, hkp⟩ := hrel
        have HI := hid hi
        have HVI := hid hvi
        have HVO := hid hvo
        have HBO := hid hbo
        have HD := hid hd
        have HK := hid hkp
        have hlo := hvo.lenOf
        have hle := hi.len
        clear hi hvi hvo hbo hd hkp
        cases row0 with
        | nil =>
          obtain ⟨e1, e2, e3⟩ : row1 = [] ∧ y' = 0 ∧ b' = false := by simp only [getR, Prod.mk.injEq] at hr; exact ⟨hr.1.symm, hr.2.1.symm, hr.2.2.symm⟩
          subst row1 y' b'
          rw [List.append_nil] at hI
          subst hI
          clear hr hlo
          go_wp2_with fail
          refine (same04_rows _ _ I _ HVI.out HVO.out (by omega)).mono ?_
          rintro e w6 ⟨rfl, m, hw6⟩
          rw [hw6]; clear hw6 w6
          go_wp2_with fail
          go_ret
          exact ⟨rfl, HK.out.trans' (Kp.drewN _ _ _)⟩
        | cons z r =>
          obtain ⟨e1, e2, e3⟩ : row1 = r ∧ y' = z ∧ b' = true := by simp only [getR, Prod.mk.injEq] at hr; exact ⟨hr.1.symm, hr.2.1.symm, hr.2.2.symm⟩
          subst row1 y' b'
          clear hr
          have hIO : I.length = O'.length + (r.length + 1) := by rw [hI]; simp
          have hOl : O'.length ≤ 300 := by omega
          have HI2 : Hid (I = (O' ++ [z]) ++ r) := by (show I = _; rw [hI]; simp)
          have hng : decide ((I.length : Int) < (O'.length : Int) + 1) = false := by simp; omega
          have hng2 : decide (I.length < O'.length + 1) = false := by simp; omega
          have HIO := hid hIO
          clear hI hIO
          obtain ⟨sI, cI, hu10, _⟩ := HVI.out.src
          subst hu10
          obtain ⟨ys, y, b, hr⟩ : ∃ ys y b, getR r = (ys, y, b) := ⟨_, _, _, rfl⟩
          have HR := hid hr
          clear hr
          go_wp2_with (at_builtin; refine wpl_append rfl (.tmp 102) (.tmp 104) 55 rfl el55 _ O'.length (O'.map (Value.int .i64)) rfl (Sl.kp (Kp.alloc No _ _) HVO.out (fun _ _ => id)) (some ⟨wr.heap.size, 0, none⟩) 1 1 [.int .i64 z] rfl rfl (fun _ => ⟨_, rfl, cell_one_new _ _ _⟩) (by intro u hu; simp at hu; subst hu; rfl) (by unfold maxLen; omega) (by omega) (fun e => by cases e) ?_; intro v5 w5 hv hk5 hm; have HVO5 := hid (Row.of_snoc hv); have HKK := hid ((Kp.alloc _ wr _).trans' hk5); have HMN := hid (moved_ne hm (fun b hb e => HD.out b e hb) (fun b hb => by have := Sl.lt HVI.out hb; simp; omega)); have HM := hid (moved_ge hm HBO.out (by simp; omega)); have HI5 := hid (HI.out.kp HKK.out (fun e => by have := HBO.out _ e; omega) (fun e => by have := HBO.out _ e; omega)); have HVI5 := hid (HVI.out.kp HKK.out (fun b hb e => HD.out b hb e)); have HK5 := hid (HK.out.trans HKK.out (by intro i hi he; have := HBO.out i he; omega)); obtain ⟨s5, c5, hv5, _⟩ := HVO5.out.src; rw [show (O' ++ [z]).length = O'.length + 1 by simp] at hv5; subst hv5; clear hv hk5 hm)
          refine (get_any p q N r ys y b HR.out _ HI5.out).mono ?_
          rintro e w6 ⟨rfl, hi6, hk6⟩
          have HI6 := hid hi6
          have HVI6 := hid (HVI5.out.kp hk6 (fun b hb e => by have := HBI2.out b hb; rcases e with e | e <;> omega))
          have HVO6 := hid (HVO5.out.kp hk6 (fun b hb e => by have := HM.out b hb; rcases e with e | e <;> omega))
          have HK6 := hid (HK5.out.trans hk6 (by intro i hi he; rcases he with he | he <;> omega))
          have hs6 := hk6.size
          have hs5 := HKK.out.size
          have hl5 := HVO5.out.lenOf
          clear hi6 hk6
          go_wp2_with fail
          go_roundw
          case rel => exact ⟨O' ++ [z], y, b, r, ys, HR.out, HI2.out, rfl, rfl, HI6.out, HVI6.out, HVO6.out, HM.out, fun b hb e => HMN.out b e hb, by omega, HK6.out⟩
          case measure =>
            have := HIO.out
            simp [lenOf] at hlo ⊢
            omega
end Go.Proofs.Ytijpdeanbkodkaa
