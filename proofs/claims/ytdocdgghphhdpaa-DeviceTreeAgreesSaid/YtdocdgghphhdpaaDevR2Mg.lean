/- Walks: the reference's valid. -/
import Derived.Test.YtdocdgghphhdpaaDevW10Mg
namespace Go.Proofs.Ytdocdgghphhdpaa
open Go.RowKit

theorem deep_iff (d : PD) : deepB d = true ↔ d.df 0 = 0 ∧ d.df 0 ≤ d.df 1 ∧ d.df 1 ≤ d.df 2 ∧ d.df 2 ≤ d.df 3 ∧ d.df 3 ≤ d.df 4 ∧ d.df 4 ≤ d.df 5 ∧ d.df 5 ≤ 4 := by
  unfold deepB srtB
  rw [decide_eq_true_iff, decide_eq_true_iff]
  constructor
  · intro ⟨a, b, c⟩
    exact ⟨a, b 0 (by simp [PD.deepL]), b 1 (by simp [PD.deepL]), b 2 (by simp [PD.deepL]), b 3 (by simp [PD.deepL]), b 4 (by simp [PD.deepL]), c⟩
  · intro ⟨a, b0, b1, b2, b3, b4, c⟩
    refine ⟨a, fun i hi => ?_, c⟩
    have hi5 : i < 5 := hi
    have : i = 0 ∨ i = 1 ∨ i = 2 ∨ i = 3 ∨ i = 4 := by omega
    rcases this with rfl | rfl | rfl | rfl | rfl
    · exact b0
    · exact b1
    · exact b2
    · exact b3
    · exact b4
def deepTo (d : PD) (k : Nat) : Prop := ∀ j, j < k → 0 ≤ d.df j ∧ d.df j ≤ 4 ∧ (0 < j → d.df (j - 1) ≤ d.df j)
theorem deepTo_fin {d : PD} (h : deepTo d 6) (h0 : d.df 0 = 0) : deepB d = true :=
  (deep_iff d).2 ⟨h0, (h 1 (by omega)).2.2 (by omega), (h 2 (by omega)).2.2 (by omega), (h 3 (by omega)).2.2 (by omega), (h 4 (by omega)).2.2 (by omega), (h 5 (by omega)).2.2 (by omega), (h 5 (by omega)).2.1⟩
theorem deepTo_of {d : PD} (h : deepB d = true) {k : Nat} (hk : k < 6) : 0 ≤ d.df k ∧ d.df k ≤ 4 ∧ (0 < k → d.df (k - 1) ≤ d.df k) := by
  have := (deep_iff d).1 h
  have hk6 : k = 0 ∨ k = 1 ∨ k = 2 ∨ k = 3 ∨ k = 4 ∨ k = 5 := by omega
  rcases hk6 with rfl | rfl | rfl | rfl | rfl | rfl
  all_goals
    refine ⟨by omega, by omega, fun _ => ?_⟩
    simp only [Nat.reduceSub]
    try omega
theorem deepTo_succ {d : PD} {k : Nat} (h : deepTo d k) (hk : 0 ≤ d.df k ∧ d.df k ≤ 4 ∧ (0 < k → d.df (k - 1) ≤ d.df k)) : deepTo d (k + 1) := fun j hj => by
  by_cases e : j = k
  · subst e; exact hk
  · exact h j (by omega)
def VaRel (w : World) (rl : Nat → List Int) (n : Int) (m : Nat) (i : Value) (wr : World) : Prop := ∃ k : Nat, k ≤ 4 ∧ i = .int .i64 k ∧ (∀ j, j < k → railOk (rl j) n) ∧ Fr [] w wr ∧ m = 4 - k
def VbRel (w : World) (l : List Int) (n : Int) (m : Nat) (i : Value) (wr : World) : Prop := ∃ t : Nat, t ≤ l.length ∧ i = .int .i64 t ∧ (∀ (j : Nat) (y : Int), j < t → l[j]? = some y → 0 ≤ y ∧ y < n) ∧ w = wr ∧ m = l.length - t
def VcRel (w : World) (d : PD) (m : Nat) (i : Value) (wr : World) : Prop := ∃ t : Nat, t ≤ 6 ∧ i = .int .i64 t ∧ deepTo d t ∧ Fr [] w wr ∧ m = 6 - t
set_option maxHeartbeats 8000000 in
set_option maxRecDepth 100000 in
theorem rvalid_any (x : DV) (i : Nat) (n : Int) (w : World) (hra : RailsAt w x.d x.rl) (hn : ∀ k, (x.rl k).length ≤ 4096) :
    Calls Try.prog 109 #[.agg x.d.cells, .int .i64 (i : Int), .int .i64 n] w fun e w' => e = .returned (.bool (devOk x i n)) ∧ Fr [] w w' := by
  have hfa : Fr [] w (w.alloc (.cells x.d.cells 46)) := (Fr.refl _ _).alloc _
  have HB := hide (Blk.new w 46 x.d.cells)
  obtain ⟨c0, -, -, -, -, c5, -, -, -, -, -, c11, c12⟩ := PD13.new w 46 x.d
  have HRA := hide (hra.fr0 hfa)
  have HN := hide hn
  clear hra hn
  by_cases p1 : x.d.par < -1
  · have HF : Hid (devOk x i n = false) := hide (by simp [devOk]; intro h; omega)
    go_enter Try.func109, Try.ntmps109
    go_wp2
    go_ret
    exact ⟨ret_bool HF.out.symm, hfa⟩
  by_cases p2 : (i : Int) ≤ x.d.par
  · have HF : Hid (devOk x i n = false) := hide (by simp [devOk]; intro h; omega)
    go_enter Try.func109, Try.ntmps109
    go_wp2
    go_ret
    exact ⟨ret_bool HF.out.symm, hfa⟩
  by_cases p3 : x.d.df 0 = 0
  case neg =>
    have HF : Hid (devOk x i n = false) := hide (by simp [devOk, deepB]; intro _ _ _ h; exact absurd h p3)
    have hb : (x.d.df 0 != 0) = true := by simp [p3]
    clear p3
    go_enter Try.func109, Try.ntmps109
    go_wp2
    go_ret
    exact ⟨ret_bool HF.out.symm, hfa⟩
  have hb : (x.d.df 0 != 0) = false := by simp [p3]
  have HP3 := hide p3
  clear p3
  by_cases p4 : x.d.ws < 0
  · have HF : Hid (devOk x i n = false) := hide (by unfold devOk; rw [decide_eq_false (p := (0 ≤ x.d.ws ∧ _)) (by omega), Bool.and_false])
    go_enter Try.func109, Try.ntmps109
    go_wp2
    go_ret
    exact ⟨ret_bool HF.out.symm, hfa⟩
  by_cases p5 : 4 < x.d.ws
  · have HF : Hid (devOk x i n = false) := hide (by unfold devOk; rw [decide_eq_false (p := (0 ≤ x.d.ws ∧ _)) (by omega), Bool.and_false])
    go_enter Try.func109, Try.ntmps109
    go_wp2
    go_ret
    exact ⟨ret_bool HF.out.symm, hfa⟩
  by_cases p6 : x.d.wd < 0
  · have HF : Hid (devOk x i n = false) := hide (by unfold devOk; rw [decide_eq_false (p := (0 ≤ x.d.ws ∧ _)) (by omega), Bool.and_false])
    go_enter Try.func109, Try.ntmps109
    go_wp2
    go_ret
    exact ⟨ret_bool HF.out.symm, hfa⟩
  by_cases p7 : 3 < x.d.wd
  · have HF : Hid (devOk x i n = false) := hide (by unfold devOk; rw [decide_eq_false (p := (0 ≤ x.d.ws ∧ _)) (by omega), Bool.and_false])
    go_enter Try.func109, Try.ntmps109
    go_wp2
    go_ret
    exact ⟨ret_bool HF.out.symm, hfa⟩
  have HDO : Hid (devOk x i n = (railsB x.rl n && deepB x.d)) := hide (by
    unfold devOk
    rw [decide_eq_true (p := (-1 ≤ x.d.par ∧ _)) (by omega), decide_eq_true (p := (0 ≤ x.d.ws ∧ _)) (by omega), Bool.and_true, Bool.true_and])
  go_enter Try.func109, Try.ntmps109
  go_wp2
  clear p1 p2 p4 p5 p6 p7 c0 c5 c11 c12 hb
  generalize w.alloc (.cells x.d.cells 46) = w1 at hfa HB HRA ⊢
  generalize w.heap.size = g at HB ⊢
  go_loopg [7] 4 (fun m i wr => VaRel w1 x.rl n m i wr)
  case atStart => exact ⟨0, by omega, rfl, fun j hj => by omega, Fr.refl _ _, rfl⟩
  case round =>
    obtain ⟨k, hk, rfl, hall, hfr, hmm⟩ := hrel
    have HM := hide hmm
    have HALL := hide hall
    clear hmm hall
    have hf0 := hfa.call hfr
    by_cases hlt : k < 4
    · obtain ⟨A, cp, e, hr⟩ := HRA.out k hlt
      have hl96 := HN.out k
      have HR := hide (hr.fr0 hfr)
      have c1 : wr.cell? ⟨g, 1 + k, none⟩ = some (x.d.rf k) := ((HB.out.fr hfr (by simp)).cell (1 + k)).trans (x.d.rail hlt)
      rw [e] at c1
      obtain ⟨l, hl⟩ : ∃ l, l = x.rl k := ⟨_, rfl⟩
      rw [← hl] at HR hl96 c1
      have HST : Hid (railOk l n → ∀ j, j < k + 1 → railOk (x.rl j) n) := hide (fun h j hj => by
        by_cases e : j = k
        · subst e; rw [← hl]; exact h
        · exact HALL.out j (by omega))
      have HNO : Hid (¬ railOk l n → devOk x i n = false) := hide (fun h => by rw [HDO.out, railsB_no hlt (by rw [← hl]; exact h)]; rfl)
      have hk4 : (k : Int) < 4 := by omega
      clear hr hl HALL e
      cases h1 : ascB l with
      | false =>
        have HF := hide (HNO.out (fun h => by have h2 := h.1; rw [h1] at h2; cases h2))
        go_wp2_with fail
        refine (rasc27_any A cp l wr HR.out (by unfold maxLen; omega)).mono ?_
        rintro e w3 ⟨rfl, hf3⟩
        rw [h1]
        go_wp2
        go_ret
        exact ⟨ret_bool HF.out.symm, hf0.call hf3⟩
      | true =>
        go_wp2_with fail
        refine (rasc27_any A cp l wr HR.out (by unfold maxLen; omega)).mono ?_
        rintro e w3 ⟨rfl, hf3⟩
        rw [h1]
        have c1' := hf3.cell c1 (by simp)
        have HR3 := hide (HR.out.fr0 hf3)
        have hf13 := hfr.call hf3
        have hf03 := hf0.call hf3
        have HH1 := hide h1
        clear c1 HR hfr hf3 h1 hf0
        obtain ⟨K, hK⟩ : ∃ K, K = k := ⟨_, rfl⟩
        subst hK
        go_wp2
        go_loopg [8] l.length (fun m i wr => VbRel w3 l n m i wr)
        case atStart => exact ⟨0, by omega, rfl, fun j y hj => by omega, rfl, rfl⟩
        case round =>
          obtain ⟨t, ht, rfl, hall, rfl, hmm⟩ := hrel
          have HM2 := hide hmm
          have HALL := hide hall
          clear hmm hall
          by_cases hlt2 : t < l.length
          · obtain ⟨y, hy⟩ : ∃ y, l[t]? = some y := ⟨_, List.getElem?_eq_getElem hlt2⟩
            obtain ⟨ob, oo, rfl, c2⟩ := HR3.out.int hy
            have htl : (t : Int) < (l.length : Int) := by omega
            have HNO2 : Hid (¬ (0 ≤ y ∧ y < n) → devOk x i n = false) := hide (fun h => HNO.out (fun hh => h (hh.2 y (List.mem_of_getElem? hy))))
            have HST2 : Hid (0 ≤ y ∧ y < n → ∀ (j : Nat) (z : Int), j < t + 1 → l[j]? = some z → 0 ≤ z ∧ z < n) := hide (fun h j z hj hz => by
              by_cases e : j = t
              · subst e
                rw [hy] at hz
                injection hz with hz
                subst hz
                exact h
              · exact HALL.out j z (by omega) hz)
            clear hy HALL
            by_cases hy0 : y < 0
            · have HF := hide (HNO2.out (by omega))
              go_wp2
              go_ret
              exact ⟨ret_bool HF.out.symm, hf03⟩
            · by_cases hyn : n ≤ y
              · have HF := hide (HNO2.out (by omega))
                go_wp2
                go_ret
                exact ⟨ret_bool HF.out.symm, hf03⟩
              · have HOK := hide (HST2.out (by omega))
                go_wp2
                go_roundg (l.length - (t + 1))
                case measure => rw [HM2.out]; omega
                case rel => exact ⟨t + 1, by omega, by go_num, HOK.out, rfl, rfl⟩
          · have htl : ¬ (t : Int) < (l.length : Int) := by omega
            have HOK : Hid (railOk l n) := hide ⟨HH1.out, fun v hv => by
              obtain ⟨j, hj⟩ := List.getElem?_of_mem hv
              exact HALL.out j v (by have := (List.getElem?_eq_some_iff.1 hj).1; omega) hj⟩
            go_wp2
            go_roundg (4 - (K + 1))
            case measure => rw [HM.out]; omega
            case rel => exact ⟨K + 1, by omega, by go_num, HST.out HOK.out, hf13, rfl⟩
    · obtain rfl : k = 4 := by omega
      have HRB := hide (railsB_yes HALL.out)
      rw [HRB.out, Bool.true_and] at HDO
      have HB2 := hide (HB.out.fr hfr (by simp))
      clear HRB HALL HB HRA HM hfr
      obtain ⟨wq, hwq⟩ : ∃ wq, wq = wr := ⟨_, rfl⟩
      subst hwq
      go_wp2
      go_loopg [9] 6 (fun m i wr => VcRel wq x.d m i wr)
      case atStart => exact ⟨0, by omega, rfl, fun j hj => by omega, Fr.refl _ _, rfl⟩
      case round =>
        obtain ⟨t, ht, rfl, hall, hfr, hmm⟩ := hrel
        have HM2 := hide hmm
        have HALL := hide hall
        clear hmm hall
        have hf1 := hf0.call hfr
        by_cases hlt2 : t < 6
        · have c1 : wr.cell? ⟨g, 5 + t, none⟩ = some (.int .i64 (x.d.df t)) := ((HB2.out.fr hfr (by simp)).cell (5 + t)).trans (x.d.deep hlt2)
          have HNO2 : Hid (¬ (0 ≤ x.d.df t ∧ x.d.df t ≤ 4 ∧ (0 < t → x.d.df (t - 1) ≤ x.d.df t)) → devOk x i n = false) := hide (fun h => by
            rw [HDO.out]
            cases e : deepB x.d with
            | false => rfl
            | true => exact absurd (deepTo_of e hlt2) h)
          have HST2 := hide (fun h => deepTo_succ HALL.out h)
          have ht6 : (t : Int) < 6 := by omega
          clear HALL
          by_cases hy0 : x.d.df t < 0
          · have HF := hide (HNO2.out (by omega))
            have hd1 : decide (x.d.df t < 0) = true := decide_eq_true hy0
            go_wp2
            go_quiet (fail)
            go_wp2
            go_ret
            exact ⟨ret_bool HF.out.symm, hf1.drewN _⟩
          have hd1 : decide (x.d.df t < 0) = false := decide_eq_false hy0
          by_cases hy4 : 4 < x.d.df t
          · have HF := hide (HNO2.out (by omega))
            have hd2 : decide (4 < x.d.df t) = true := decide_eq_true hy4
            go_wp2
            go_quiet (fail)
            go_wp2
            go_ret
            exact ⟨ret_bool HF.out.symm, hf1.drewN _⟩
          have hd2 : decide (4 < x.d.df t) = false := decide_eq_false hy4
          by_cases ht0 : 0 < t
          · have c2 : wr.cell? ⟨g, 5 + (t - 1), none⟩ = some (.int .i64 (x.d.df (t - 1))) := ((HB2.out.fr hfr (by simp)).cell (5 + (t - 1))).trans (x.d.deep (by omega))
            have c2' : wr.cell? ⟨g, 5 + ((t : Int) - 1).toNat, none⟩ = some (.int .i64 (x.d.df (t - 1))) := by rw [show ((t : Int) - 1).toNat = t - 1 by omega]; exact c2
            have ht1 : (0 : Int) ≤ (t : Int) - 1 := by omega
            have ht2 : (t : Int) - 1 < 6 := by omega
            have hd3 : decide ((0 : Int) < (t : Int)) = true := decide_eq_true (by omega)
            have hd4 : decide (0 < t) = true := decide_eq_true (by omega)
            generalize x.d.df (t - 1) = z at c2 c2' HNO2 HST2
            by_cases hz : x.d.df t < z
            · have HF := hide (HNO2.out (by omega))
              have hd5 : decide (x.d.df t < z) = true := decide_eq_true hz
              go_wp2
              go_quiet (fail)
              go_wp2
              go_ret
              exact ⟨ret_bool HF.out.symm, hf1.drewN _⟩
            · have HOK := hide (HST2.out (by omega))
              have hd5 : decide (x.d.df t < z) = false := decide_eq_false hz
              go_wp2
              go_quiet (fail)
              go_wp2
              go_roundg (6 - (t + 1))
              case measure => rw [HM2.out]; omega
              case rel => exact ⟨t + 1, by omega, by go_num, HOK.out, hfr.drewN _, rfl⟩
          · have hd3 : decide ((0 : Int) < (t : Int)) = false := decide_eq_false (by omega)
            have hd4 : decide (0 < t) = false := decide_eq_false (by omega)
            have HOK := hide (HST2.out (by omega))
            go_wp2
            go_quiet (fail)
            go_wp2
            go_roundg (6 - (t + 1))
            case measure => rw [HM2.out]; omega
            case rel => exact ⟨t + 1, by omega, by go_num, HOK.out, hfr.drewN _, rfl⟩
        · obtain rfl : t = 6 := by omega
          have HF := hide (deepTo_fin HALL.out HP3.out)
          rw [HF.out] at HDO
          go_wp2
          go_ret
          exact ⟨ret_bool HDO.out.symm, hf1⟩
end Go.Proofs.Ytdocdgghphhdpaa

