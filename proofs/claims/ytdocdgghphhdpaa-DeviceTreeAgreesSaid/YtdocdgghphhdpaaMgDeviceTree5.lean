/- Walks: slices.IsSorted at ints. -/
import Derived.Test.YtdocdgghphhdpaaMgDeviceTree1
import Derived.Test.YtdocdgghphhdpaaMgDeviceTree3
namespace Go.Proofs.Ytdocdgghphhdpaa
open Go.RowKit

theorem quiet_id27 {P : Program} {f : FuncId} {args : Array Value} {w : World} {n : Nat} {v : Value} (h : Calls P f args (w.drewN n) fun e w' => e = .returned v ∧ w.drewN n = w') :
    Calls P f args (w.drewN n) fun e w'' => e = .returned v ∧ ∃ m, w'' = w.drewN m := h.mono fun _ _ ⟨he, hw⟩ => ⟨he, n, hw.symm⟩
def srtB (l : List Int) : Bool := decide (∀ i, i < l.length - 1 → l.getD i 0 ≤ l.getD (i + 1) 0)
/-- From k on the list is sorted. -/
def srtFrom (l : List Int) (k : Nat) : Prop := ∀ i, k ≤ i → i < l.length - 1 → l.getD i 0 ≤ l.getD (i + 1) 0
def SrRel (w : World) (l : List Int) (m : Nat) (i : Value) (wr : World) : Prop := ∃ k : Nat, k ≤ l.length - 1 ∧ i = .int .i64 ((k : Int) - (if l.length = 0 then 1 else 0)) ∧ srtFrom l k ∧ Fr [] w wr ∧ m = k
set_option maxHeartbeats 1000000 in
theorem isSorted_any (A : Option Addr) (cp : Nat) (l : List Int) (w : World) (hr : Row w A (l.map (Value.int .i64))) (hn : l.length ≤ 4096) (h0 : 0 < l.length) :
    Calls Try.prog 125 #[.slice A l.length cp] w fun e w' => e = .returned (.bool (srtB l)) ∧ Fr [] w w' := by
  have HR := hide hr
  have hz : ¬ l.length = 0 := by omega
  have hl1 : (l.length : Int) - 1 = ((l.length - 1 : Nat) : Int) := by omega
  clear hr
  go_enter Try.func125, Try.ntmps125
  go_wp2
  go_loopg [3] (l.length - 1) (fun m i wr => SrRel w l m i wr)
  case atStart => exact ⟨l.length - 1, by omega, by rw [if_neg hz]; first | done | rfl | (congr 1; omega), fun i h1 h2 => by omega, Fr.refl _ _, rfl⟩
  case round =>
    obtain ⟨k, hk, rfl, hs, hfr, hmm⟩ := hrel
    have HM := hide hmm
    have HS := hide hs
    rw [if_neg hz]
    have hk0 : (k : Int) - 0 = (k : Int) := by omega
    rw [hk0]
    clear hmm hs hl1 hk0
    by_cases hp : 0 < k
    · obtain ⟨y, hy⟩ : ∃ y, l[k]? = some y := ⟨_, List.getElem?_eq_getElem (by omega)⟩
      obtain ⟨x, hx⟩ : ∃ x, l[k - 1]? = some x := ⟨_, List.getElem?_eq_getElem (by omega)⟩
      obtain ⟨ob, oo, rfl, c1⟩ := (HR.out.fr0 hfr).int hy
      obtain ⟨ob', oo', e, c2⟩ := (HR.out.fr0 hfr).int hx
      injection e with e
      injection e with e1 e2
      subst e1 e2
      have c2' : wr.cell? ⟨ob, oo + ((k : Int) - 1).toNat, none⟩ = some (.int .i64 x) := by rw [show ((k : Int) - 1).toNat = k - 1 by omega]; exact c2
      have hkl : (k : Int) < (l.length : Int) := by omega
      have hk1 : (0 : Int) ≤ (k : Int) - 1 := by omega
      have hk2 : (k : Int) - 1 < (l.length : Int) := by omega
      have hkp : (0 : Int) < (k : Int) := by omega
      have HX := hide hx
      have HY := hide hy
      clear hx hy
      by_cases hlt : y < x
      · have HF : Hid (srtB l = false) := hide (decide_eq_false fun h => by
          have := h (k - 1) (by omega)
          rw [show k - 1 + 1 = k by omega, List.getD_eq_getElem?_getD, List.getD_eq_getElem?_getD, HX.out, HY.out] at this
          simp at this
          omega)
        have hd : decide (y < x) = true := decide_eq_true hlt
        go_wp2
        go_quiet ((go_at_call 127; exact quiet_id27 (less_any _ _ _)))
        go_wp2
        go_ret
        exact ⟨ret_bool HF.out.symm, hfr.drewN _⟩
      · have hd : decide (y < x) = false := decide_eq_false hlt
        go_wp2
        go_quiet ((go_at_call 127; exact quiet_id27 (less_any _ _ _)))
        go_wp2
        go_roundg (k - 1)
        case measure => rw [HM.out]; omega
        case rel =>
          refine ⟨k - 1, by omega, by rw [if_neg hz]; congr 1; omega, fun i h1 h2 => ?_, hfr.drewN _, rfl⟩
          by_cases e : i = k - 1
          · rw [e, show k - 1 + 1 = k by omega, List.getD_eq_getElem?_getD, List.getD_eq_getElem?_getD, HX.out, HY.out]
            simp
            omega
          · exact HS.out i (by omega) h2
    · have hkp : ¬ (0 : Int) < (k : Int) := by omega
      have HF : Hid (srtB l = true) := hide (decide_eq_true fun i hi => HS.out i (by omega) hi)
      go_wp2
      go_ret
      exact ⟨ret_bool HF.out.symm, hfr⟩
end Go.Proofs.Ytdocdgghphhdpaa

/- Walks: device.validRails, device.validDeepest. -/
namespace Go.Proofs.Ytdocdgghphhdpaa
open Go.RowKit

/-- A list of rails is ascending and has only indexes below n. -/
def railOk (l : List Int) (n : Int) : Prop := ascB l = true ∧ ∀ v ∈ l, 0 ≤ v ∧ v < n
instance (l : List Int) (n : Int) : Decidable (railOk l n) := by unfold railOk; infer_instance
theorem asc_get {l : List Int} (h : ascB l = true) {i j : Nat} {x y : Int} (hx : l[i]? = some x) (hy : l[j]? = some y) (hij : i ≤ j) : x ≤ y := by
  have hp := asc_of h
  unfold Asc at hp
  rw [List.pairwise_iff_getElem] at hp
  obtain ⟨h1, e1⟩ := List.getElem?_eq_some_iff.1 hx
  obtain ⟨h2, e2⟩ := List.getElem?_eq_some_iff.1 hy
  by_cases e : i = j
  · subst e
    rw [hx] at hy
    injection hy with hy
    omega
  · have := hp i j h1 h2 (by omega)
    rw [e1, e2] at this
    omega
theorem railOk_nil (n : Int) : railOk [] n := ⟨by decide, fun v hv => by cases hv⟩
theorem railOk_ends {l : List Int} {n x y : Int} (h : ascB l = true) (hx : l[0]? = some x) (hy : l[l.length - 1]? = some y) : railOk l n ↔ 0 ≤ x ∧ y < n := by
  constructor
  · intro ⟨_, h2⟩
    exact ⟨(h2 x (List.mem_of_getElem? hx)).1, (h2 y (List.mem_of_getElem? hy)).2⟩
  · intro ⟨h1, h2⟩
    refine ⟨h, fun v hv => ?_⟩
    obtain ⟨i, hi⟩ := List.getElem?_of_mem hv
    have hl := (List.getElem?_eq_some_iff.1 hi).1
    have a := asc_get h hx hi (by omega)
    have b := asc_get h hi hy (by omega)
    omega
def railsB (rl : Nat → List Int) (n : Int) : Bool := (List.range 4).all fun k => decide (railOk (rl k) n)
theorem railsB_yes {rl : Nat → List Int} {n : Int} (h : ∀ k, k < 4 → railOk (rl k) n) : railsB rl n = true := List.all_eq_true.2 fun k hk => decide_eq_true (h k (List.mem_range.1 hk))
theorem railsB_no {rl : Nat → List Int} {n : Int} {k : Nat} (hk : k < 4) (h : ¬ railOk (rl k) n) : railsB rl n = false := by
  cases e : railsB rl n with
  | false => rfl
  | true => exact absurd (of_decide_eq_true (List.all_eq_true.1 e k (List.mem_range.2 hk))) h
theorem idx27_0 {a b c d v : Value} {w : World} (h : a = v) : Sem.run Try.prog (Instr.index 43 (.agg #[a, b, c, d]) (.int .i64 0)) w = .ok v w := by subst h; kernel_rfl
theorem idx27_1 {a b c d v : Value} {w : World} (h : b = v) : Sem.run Try.prog (Instr.index 43 (.agg #[a, b, c, d]) (.int .i64 1)) w = .ok v w := by subst h; kernel_rfl
theorem idx27_2 {a b c d v : Value} {w : World} (h : c = v) : Sem.run Try.prog (Instr.index 43 (.agg #[a, b, c, d]) (.int .i64 2)) w = .ok v w := by subst h; kernel_rfl
theorem idx27_3 {a b c d v : Value} {w : World} (h : d = v) : Sem.run Try.prog (Instr.index 43 (.agg #[a, b, c, d]) (.int .i64 3)) w = .ok v w := by subst h; kernel_rfl
def VrRel (w : World) (rl : Nat → List Int) (n : Int) (m : Nat) (i : Value) (wr : World) : Prop := ∃ k : Nat, k ≤ 4 ∧ i = .int .i64 k ∧ (∀ j, j < k → railOk (rl j) n) ∧ Fr [] w wr ∧ m = 4 - k
set_option maxHeartbeats 4000000 in
set_option maxRecDepth 100000 in
theorem validRails_any (d : PD) (rl : Nat → List Int) (n : Int) (w : World) (hra : RailsAt w d rl) (hn : ∀ k, (rl k).length ≤ 4096) :
    Calls Try.prog 100 #[.agg d.cells, .int .i64 n] w fun e w' => e = .returned (.bool (railsB rl n)) ∧ Fr [] w w' := by
  have hfr0 : Fr [] w (w.alloc (.cells d.cells 46)) := (Fr.refl _ _).alloc _
  obtain ⟨-, c1, c2, c3, c4, -⟩ := PD13.new w 46 d
  have HRA := hide hra
  have HN := hide hn
  clear hra hn
  go_enter Try.func100, Try.ntmps100
  go_wp2
  generalize w.alloc (.cells d.cells 46) = w1 at hfr0 c1 c2 c3 c4 ⊢
  clear c1 c2 c3 c4
  go_loopg [9] 4 (fun m i wr => VrRel w1 rl n m i wr)
  case atStart => exact ⟨0, by omega, rfl, fun j hj => by omega, Fr.refl _ _, rfl⟩
  case round =>
    obtain ⟨k, hk, rfl, hall, hfr, hmm⟩ := hrel
    have HM := hide hmm
    have HALL := hide hall
    clear hmm hall
    by_cases hlt : k < 4
    · obtain ⟨A, cp, e, hr⟩ := HRA.out k hlt
      have hl96 := HN.out k
      have HR := hide ((hr.fr0 hfr0).fr0 hfr)
      obtain ⟨l, hl⟩ : ∃ l, l = rl k := ⟨_, rfl⟩
      rw [← hl] at HR e hl96
      have HST : Hid (railOk l n → ∀ j, j < k + 1 → railOk (rl j) n) := hide (fun h j hj => by
        by_cases e : j = k
        · subst e; rw [← hl]; exact h
        · exact HALL.out j (by omega))
      have HNO : Hid (¬ railOk l n → railsB rl n = false) := hide (fun h => railsB_no hlt (by rw [← hl]; exact h))
      have hk4 : k = 0 ∨ k = 1 ∨ k = 2 ∨ k = 3 := by omega
      clear hr hl HALL hlt hk
      rcases hk4 with rfl | rfl | rfl | rfl
      all_goals
        have HE0 := hide e
        clear e
        first | rw [show ((0 : Nat) : Int) = 0 from rfl] | rw [show ((1 : Nat) : Int) = 1 from rfl] | rw [show ((2 : Nat) : Int) = 2 from rfl] | rw [show ((3 : Nat) : Int) = 3 from rfl]
        by_cases h1 : ascB l = true
        · go_wp2_with fail
          first | rw [idx27_0 HE0.out] | rw [idx27_1 HE0.out] | rw [idx27_2 HE0.out] | rw [idx27_3 HE0.out]
          go_wp2_with fail
          refine (asc27_any A cp l wr HR.out (by unfold maxLen; omega)).mono ?_
          rintro e w3 ⟨rfl, hf3⟩
          rw [h1]
          by_cases h0 : l.length = 0
          · have hli : (l.length : Int) = 0 := by omega
            have HOK : Hid (railOk l n) := hide (by rw [List.eq_nil_of_length_eq_zero h0]; exact railOk_nil n)
            have hd1 : decide ((0 : Int) < (l.length : Int)) = false := decide_eq_false (by omega)
            have hd2 : decide (0 < l.length) = false := decide_eq_false (by omega)
            clear h0 hli
            go_wp2
            first
              | (go_roundg 3
                 case measure => rw [HM.out]; omega
                 case rel => exact ⟨0 + 1, by omega, by go_num, HST.out HOK.out, hfr.call hf3, rfl⟩)
              | (go_roundg 2
                 case measure => rw [HM.out]; omega
                 case rel => exact ⟨1 + 1, by omega, by go_num, HST.out HOK.out, hfr.call hf3, rfl⟩)
              | (go_roundg 1
                 case measure => rw [HM.out]; omega
                 case rel => exact ⟨2 + 1, by omega, by go_num, HST.out HOK.out, hfr.call hf3, rfl⟩)
              | (go_roundg 0
                 case measure => rw [HM.out]; omega
                 case rel => exact ⟨3 + 1, by omega, by go_num, HST.out HOK.out, hfr.call hf3, rfl⟩)
          · obtain ⟨x, hx⟩ : ∃ x, l[0]? = some x := ⟨_, List.getElem?_eq_getElem (by omega)⟩
            obtain ⟨y, hy⟩ : ∃ y, l[l.length - 1]? = some y := ⟨_, List.getElem?_eq_getElem (by omega)⟩
            have HE := hide (railOk_ends (n := n) h1 hx hy)
            obtain ⟨ob, oo, rfl, c1⟩ := (HR.out.fr0 hf3).int hx
            obtain ⟨ob', oo', e, c2⟩ := (HR.out.fr0 hf3).int hy
            injection e with e
            injection e with e1 e2
            subst e1 e2
            have c1' : w3.cell? ⟨ob, oo, none⟩ = some (.int .i64 x) := c1
            have c2' : w3.cell? ⟨ob, oo + ((l.length : Int) - 1).toNat, none⟩ = some (.int .i64 y) := by rw [show ((l.length : Int) - 1).toNat = l.length - 1 by omega]; exact c2
            have hli : (0 : Int) < (l.length : Int) := by omega
            have hl0 : (0 : Int) ≤ (l.length : Int) - 1 := by omega
            have hl1 : (l.length : Int) - 1 < (l.length : Int) := by omega
            have hd1 : decide ((0 : Int) < (l.length : Int)) = true := decide_eq_true (by omega)
            have hd2 : decide (0 < l.length) = true := decide_eq_true (by omega)
            clear hx hy h1
            by_cases hx0 : x < 0
            · have HF := hide (HNO.out (fun h => by have := HE.out.1 h; omega))
              go_wp2
              go_ret
              exact ⟨ret_bool HF.out.symm, (hfr0.call hfr).call hf3⟩
            · by_cases hyn : n ≤ y
              · have HF := hide (HNO.out (fun h => by have := HE.out.1 h; omega))
                go_wp2
                go_ret
                exact ⟨ret_bool HF.out.symm, (hfr0.call hfr).call hf3⟩
              · have HOK := hide (HE.out.2 ⟨by omega, by omega⟩)
                go_wp2
                first
                  | (go_roundg 3
                     case measure => rw [HM.out]; omega
                     case rel => exact ⟨0 + 1, by omega, by go_num, HST.out HOK.out, hfr.call hf3, rfl⟩)
                  | (go_roundg 2
                     case measure => rw [HM.out]; omega
                     case rel => exact ⟨1 + 1, by omega, by go_num, HST.out HOK.out, hfr.call hf3, rfl⟩)
                  | (go_roundg 1
                     case measure => rw [HM.out]; omega
                     case rel => exact ⟨2 + 1, by omega, by go_num, HST.out HOK.out, hfr.call hf3, rfl⟩)
                  | (go_roundg 0
                     case measure => rw [HM.out]; omega
                     case rel => exact ⟨3 + 1, by omega, by go_num, HST.out HOK.out, hfr.call hf3, rfl⟩)
        · have h1' : ascB l = false := by simpa using h1
          have HF := hide (HNO.out (fun h => h1 h.1))
          clear h1
          go_wp2_with fail
          first | rw [idx27_0 HE0.out] | rw [idx27_1 HE0.out] | rw [idx27_2 HE0.out] | rw [idx27_3 HE0.out]
          go_wp2_with fail
          refine (asc27_any A cp l wr HR.out (by unfold maxLen; omega)).mono ?_
          rintro e w3 ⟨rfl, hf3⟩
          rw [h1']
          go_wp2
          go_ret
          exact ⟨ret_bool HF.out.symm, (hfr0.call hfr).call hf3⟩
    · obtain rfl : k = 4 := by omega
      have HF : Hid (railsB rl n = true) := hide (railsB_yes HALL.out)
      go_wp2
      go_ret
      exact ⟨ret_bool HF.out.symm, hfr0.call hfr⟩
def PD.deepL (d : PD) : List Int := [d.df 0, d.df 1, d.df 2, d.df 3, d.df 4, d.df 5]
def deepB (d : PD) : Bool := decide (d.df 0 = 0 ∧ srtB d.deepL = true ∧ d.df 5 ≤ 4)
set_option maxHeartbeats 4000000 in
set_option maxRecDepth 100000 in
theorem validDeepest_any (d : PD) (w : World) :
    Calls Try.prog 101 #[.agg d.cells] w fun e w' => e = .returned (.bool (deepB d)) ∧ Fr [] w w' := by
  have hfr0 : Fr [] w (w.alloc (.cells d.cells 46)) := (Fr.refl _ _).alloc _
  obtain ⟨-, -, -, -, -, c5, c6, c7, c8, c9, c10, -, -⟩ := PD13.new w 46 d
  have HROW : Hid (Row (w.alloc (.cells d.cells 46)) (some ⟨w.heap.size, 5, none⟩) (d.deepL.map (Value.int .i64))) := hide (fun _ => ⟨_, 5, rfl, fun i u hi => by
    have hl : i < 6 := (List.getElem?_eq_some_iff.1 hi).1
    have : i = 0 ∨ i = 1 ∨ i = 2 ∨ i = 3 ∨ i = 4 ∨ i = 5 := by omega
    rcases this with rfl | rfl | rfl | rfl | rfl | rfl
    all_goals
      injection hi with hi
      subst hi
      assumption⟩)
  by_cases h0 : d.df 0 = 0
  · have hb : (d.df 0 != 0) = false := by simp [h0]
    have HD : Hid (deepB d = (srtB d.deepL && decide (d.df 5 ≤ 4))) := hide (by unfold deepB; rw [Bool.eq_iff_iff]; simp [h0])
    clear c6 c7 c8 c9 h0
    go_enter Try.func101, Try.ntmps101
    go_wp2_with fail
    generalize w.alloc (.cells d.cells 46) = w1 at hfr0 c5 c10 HROW ⊢
    refine (isSorted_any (some ⟨w.heap.size, 5, none⟩) 6 d.deepL w1 HROW.out (by simp [PD.deepL]) (by simp [PD.deepL])).mono ?_
    rintro e w3 ⟨rfl, hf3⟩
    have c10' := hf3.cell c10 (by simp)
    clear c5 c10
    cases hs : srtB d.deepL with
    | false =>
      rw [hs] at HD
      go_wp2
      go_ret
      exact ⟨ret_bool (by rw [HD.out]; rfl), hfr0.call hf3⟩
    | true =>
      rw [hs] at HD
      go_wp2
      go_ret
      exact ⟨ret_bool (by rw [HD.out]; simp), hfr0.call hf3⟩
  · have hb : (d.df 0 != 0) = true := by simp [h0]
    have HD : Hid (deepB d = false) := hide (decide_eq_false fun h => h0 h.1)
    clear c6 c7 c8 c9 c10 h0 HROW
    go_enter Try.func101, Try.ntmps101
    go_wp2
    go_ret
    exact ⟨ret_bool HD.out.symm, hfr0⟩
end Go.Proofs.Ytdocdgghphhdpaa

