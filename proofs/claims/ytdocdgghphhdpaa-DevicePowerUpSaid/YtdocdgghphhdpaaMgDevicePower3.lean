/- Walks: slices.Reverse at ints. -/
import Derived.Test.YtdocdgghphhdpaaMgDevicePower2
import Derived.RegionTactic
import Derived.ChangeAlike
namespace Go.Proofs.Ytdocdgghphhdpaa
open Go.RowKit

/-- A cell of an owned row of one-cell elements, and the row with that cell set. -/
theorem own_cell27 {w : World} {base : Nat} {e : TypeId} {v : Value} {n : Nat} {xs : List Value} (h : w.ownsRow base e 1 v n xs) {d : Nat} (hd : d < n) :
    ∃ g cp, v = .slice (some ⟨g, 0, none⟩) n cp ∧ base ≤ g ∧ (∃ cs, Blk w g e cs) ∧ w.cell? ⟨g, d, none⟩ = xs[d]? ∧ w.frozen? ⟨g, d, none⟩ = false ∧ ∀ u, (w.setCell ⟨g, d, none⟩ u).ownsRow base e 1 v n (xs.set d u) := by
  rcases h.2 with ⟨h0, h1⟩ | ⟨g, cap, cur, hv, hb, hh, hnc, hcm, hcur, hx⟩
  · omega
  · have hblk : Blk w g e cur := hh
    refine ⟨g, cap, hv, hb, ⟨cur, hblk⟩, ?_, hblk.frozen d, fun u => ⟨by simpa using h.1, .inr ⟨g, cap, cur.setIfInBounds d u, hv, hb, hblk.set_ d u, hnc, hcm, by simpa using hcur, ?_⟩⟩⟩
    · rw [hblk.cell d, ← hx, List.getElem?_take, if_pos (by omega)]
      simp
    · rw [← hx, Array.toList_setIfInBounds, List.take_set]
/-- The list with its first k and its last k elements exchanged. -/
def Revd (l c : List Int) (k : Nat) : Prop := c.length = l.length ∧ ∀ t, t < l.length → c.getD t 0 = if t < k ∨ l.length ≤ t + k then l.getD (l.length - 1 - t) 0 else l.getD t 0
theorem Revd.fin {l c : List Int} {k : Nat} (h : Revd l c k) (hk : l.length ≤ 2 * k + 1) : c = l.reverse := by
  apply List.ext_getElem (by simp [h.1])
  intro t h1 h2
  have ht : t < l.length := by rw [← h.1]; exact h1
  have h3 := h.2 t ht
  rw [List.getD_eq_getElem?_getD, List.getElem?_eq_getElem h1] at h3
  rw [List.getElem_reverse]
  have e : l.getD (l.length - 1 - t) 0 = l[l.length - 1 - t] := by rw [List.getD_eq_getElem?_getD, List.getElem?_eq_getElem (by omega)]; rfl
  rw [← e]
  simp only [Option.getD_some] at h3
  rw [h3]
  split
  · rfl
  · rename_i hn
    congr 1
    omega
theorem Revd.step {l c : List Int} {k : Nat} (h : Revd l c k) (hk : 2 * k + 1 < l.length) : Revd l ((c.set k (c.getD (l.length - 1 - k) 0)).set (l.length - 1 - k) (c.getD k 0)) (k + 1) := by
  refine ⟨by simp [h.1], fun t ht => ?_⟩
  have hc := h.1
  have e1 := h.2 k (by omega)
  have e2 := h.2 (l.length - 1 - k) (by omega)
  rw [if_neg (by omega)] at e1 e2
  rw [e1, e2]
  have h3 := h.2 t ht
  by_cases a : t = l.length - 1 - k
  · subst a
    rw [List.getD_eq_getElem?_getD, List.getElem?_set_self (by simp; omega), if_pos (by omega)]
    simp only [Option.getD_some]
    congr 1
    omega
  · by_cases b : t = k
    · subst b
      rw [List.getD_eq_getElem?_getD, List.getElem?_set_ne (by omega), List.getElem?_set_self (by omega), if_pos (by omega)]
      rfl
    · rw [List.getD_eq_getElem?_getD, List.getElem?_set_ne (by omega), List.getElem?_set_ne (by omega), ← List.getD_eq_getElem?_getD, h3]
      by_cases d : t < k ∨ l.length ≤ t + k
      · rw [if_pos d, if_pos (by omega)]
      · rw [if_neg d, if_neg (by omega)]
def RvRel (w : World) (base : Nat) (v : Value) (l : List Int) (m : Nat) (vi vj : Value) (wr : World) : Prop :=
  ∃ (k : Nat) (c : List Int), 2 * k ≤ l.length + 1 ∧ vi = .int .i64 k ∧ vj = .int .i64 ((l.length : Int) - 1 - (k : Int)) ∧ Revd l c k ∧ wr.ownsRow base 3 1 v l.length (c.map (Value.int .i64)) ∧ Fr v.ownBlock.toList w wr ∧ m = l.length + 1 - 2 * k
set_option maxHeartbeats 2000000 in
theorem reverse27_any {w : World} {base : Nat} {v : Value} {l : List Int} (h : w.ownsRow base 3 1 v l.length (l.map (Value.int .i64))) (hn : l.length ≤ 4096) :
    Calls Try.prog 99 #[v] w fun e w' => e = .returned (.tuple #[]) ∧ w'.ownsRow base 3 1 v l.length (l.reverse.map (Value.int .i64)) ∧ Fr v.ownBlock.toList w w' := by
  obtain ⟨A0, c0, rfl, -, -, -⟩ := own_slice h
  have HO := hide h
  clear h
  go_enter Try.func99, Try.ntmps99
  go_wp2
  go_loopg [2, 3] (l.length + 1) (fun m vi vj wr => RvRel w base (.slice A0 l.length c0) l m vi vj wr)
  case atStart => exact ⟨0, l, by omega, rfl, by simp, ⟨rfl, fun t ht => by rw [if_neg (by omega)]⟩, HO.out, Fr.refl _ _, rfl⟩
  case round =>
    obtain ⟨k, c, hk, rfl, rfl, hrv, hown, hfr, hmm⟩ := hrel
    have HM := hide hmm
    have HRV := hide hrv
    have HOWN := hide hown
    clear hmm hrv hown
    by_cases hlt : 2 * k + 1 < l.length
    · have hl' : (k : Int) < (l.length : Int) - 1 - (k : Int) := by omega
      obtain ⟨g, cp, hv, hgb, -, hc1, hf1, hset1⟩ := own_cell27 HOWN.out (show k < l.length by omega)
      obtain ⟨g', cp', hv', -, -, hc2, hf2, -⟩ := own_cell27 HOWN.out (show l.length - 1 - k < l.length by omega)
      injection hv with hv _ hcc
      subst hv
      subst hcc
      injection hv' with hv' _ hcc'
      clear hcc'
      injection hv' with hv'
      injection hv' with hv'
      subst hv'
      have hcl := HRV.out.1
      have e1 : wr.cell? ⟨g, k, none⟩ = some (.int .i64 (c.getD k 0)) := by rw [hc1, List.getElem?_map, List.getD_eq_getElem?_getD, List.getElem?_eq_getElem (by omega)]; rfl
      have e2 : wr.cell? ⟨g, l.length - 1 - k, none⟩ = some (.int .i64 (c.getD (l.length - 1 - k) 0)) := by rw [hc2, List.getElem?_map, List.getD_eq_getElem?_getD, List.getElem?_eq_getElem (by omega)]; rfl
      have HST := hide (HRV.out.step (by omega))
      have HS1 := hide hset1
      generalize c.getD k 0 = x at e1 HST
      generalize c.getD (l.length - 1 - k) 0 = y at e2 HST
      obtain ⟨j, hj⟩ : ∃ j, j = l.length - 1 - k := ⟨_, rfl⟩
      rw [← hj] at e2 hf2 HST
      have hji : (l.length : Int) - 1 - (k : Int) = (j : Int) := by omega
      have hkj : k ≠ j := by omega
      have hjl : (j : Int) < (l.length : Int) := by omega
      have hkl : (k : Int) < (l.length : Int) := by omega
      have hkji : (k : Int) < (j : Int) := by omega
      rw [hji]
      have HJ := hide hj
      have HJI := hide hji
      clear hc1 hc2 hset1 hcl hj hji hl'
      go_wp2
      go_region
      go_wp2
      go_roundg (l.length + 1 - 2 * (k + 1))
      case measure => rw [HM.out]; omega
      case rel =>
        have o1 := HS1.out (.int .i64 y)
        obtain ⟨g2, cp2, hv2, -, -, -, -, hset2⟩ := own_cell27 o1 (show j < l.length by omega)
        injection hv2 with hv2 _ _
        injection hv2 with hv2
        injection hv2 with hv2
        subst hv2
        have o2 := own_fr (hset2 (.int .i64 x)) ((Fr.refl [] _).drew) (fun _ _ => by simp)
        refine ⟨k + 1, (c.set k y).set j x, by have := HJ.out; omega, by go_num, ?_, HST.out, ?_, ((hfr.set (p := ⟨g, k, none⟩) (.inl (by simp [Value.ownBlock])) _).set (p := ⟨g, j, none⟩) (.inl (by simp [Value.ownBlock])) _).drew, rfl⟩
        · congr 1
          have := HJI.out
          omega
        · rw [List.map_set, List.map_set]
          exact o2
    · have hl' : ¬ (k : Int) < (l.length : Int) - 1 - (k : Int) := by omega
      have HF := hide (HRV.out.fin (by omega))
      go_wp2
      refine bodyPost_end (results_none rfl _ _ _) rfl ?_
      refine ⟨rfl, ?_, hfr⟩
      rw [← List.map_reverse, ← HF.out]
      exact HOWN.out
end Go.Proofs.Ytdocdgghphhdpaa

/- Walks: validState; a device whose rails' lists are known. -/
namespace Go.Proofs.Ytdocdgghphhdpaa
open Go.RowKit

set_option maxHeartbeats 400000 in
theorem validState_any (s : Int) (w : World) : Calls Try.prog 61 #[.int .i64 s] w fun e w' => e = .returned (.bool (decide (0 ≤ s ∧ s ≤ 4))) ∧ w = w' := by
  by_cases h0 : 0 ≤ s
  · have hd : decide (0 ≤ s ∧ s ≤ 4) = decide (s ≤ 4) := by simp [h0]
    have HD := hide hd
    clear hd
    go_enter Try.func61, Try.ntmps61
    go_wp2
    go_ret
    exact ⟨ret_bool HD.out.symm, rfl⟩
  · have hd : decide (0 ≤ s ∧ s ≤ 4) = false := by simp; omega
    have HD := hide hd
    clear hd
    go_enter Try.func61, Try.ntmps61
    go_wp2
    go_ret
    refine ⟨ret_bool ?_, rfl⟩
    rw [Bool.eq_iff_iff]
    simp
    omega
/-- The rails' lists of a device. -/
def RailsAt (w : World) (d : PD) (rl : Nat → List Int) : Prop := ∀ k, k < 4 → ∃ A cp, d.rf k = .slice A (rl k).length cp ∧ Row w A ((rl k).map (Value.int .i64))
theorem RailsAt.fr0 {w w' : World} {d : PD} {rl : Nat → List Int} (h : RailsAt w d rl) (k : Fr [] w w') : RailsAt w' d rl := fun i hi => by
  obtain ⟨A, cp, e, hr⟩ := h i hi
  exact ⟨A, cp, e, hr.fr0 k⟩
def needL (rl : Nat → List Int) (k : Nat) : List Int := if k = 4 then [] else rl k
theorem RailsAt.need {w : World} {d : PD} {rl : Nat → List Int} (h : RailsAt w d rl) {k : Nat} (hk : k ≤ 4) : ∃ A cp, d.need k = .slice A (needL rl k).length cp ∧ Row w A ((needL rl k).map (Value.int .i64)) := by
  unfold PD.need needL
  by_cases h4 : k = 4
  · rw [if_pos h4, if_pos h4]
    exact ⟨none, 0, rfl, Row.nil _ _⟩
  · rw [if_neg h4, if_neg h4]
    exact h k (by omega)
/-- What Change returns: the rails to acquire, those to release, the error. -/
def changeM (rl : Nat → List Int) (a b : Int) : List Int × List Int × Int :=
  if 0 ≤ a ∧ a ≤ 4 ∧ 0 ≤ b ∧ b ≤ 4 then (if ascB (needL rl a.toNat) = true ∧ ascB (needL rl b.toNat) = true then (diffM (needL rl b.toNat) (needL rl a.toNat), (diffM (needL rl a.toNat) (needL rl b.toNat)).reverse, 0) else ([], [], 1)) else ([], [], 1)
end Go.Proofs.Ytdocdgghphhdpaa

