/- Walks: slices.Reverse at ints. -/
import Derived.Test.YtdocdgghphhdpaaMgDeviceTree2
import Derived.RegionTactic
import Derived.ChangeAlike
import Derived.Deep.RegionHeld3
namespace Go.Proofs.Ytdocdgghphhdpaa
open Go.RowKit

/-- A cell of an owned row of one-cell elements, and the row with that cell set. -/
theorem own_cell27 {w : World} {base : Nat} {e : TypeId} {v : Value} {n : Nat} {xs : List Value} (h : w.ownsRow base e 1 v n xs) {d : Nat} (hd : d < n) :
    ∃ g cp, v = .slice (some ⟨g, 0, none⟩) n cp ∧ base ≤ g ∧ (∃ cs, Blk w g e cs) ∧ w.cell? ⟨g, d, none⟩ = xs[d]? ∧ w.frozen? ⟨g, d, none⟩ = false ∧ ∀ u, (w.setCell ⟨g, d, none⟩ u).ownsRow base e 1 v n (xs.set d u) := by
  rcases h.2 with ⟨h0, h1⟩ | ⟨g, cap, cur, hv, hb, hh, hnc, hcm, hcur, hx⟩
  · omega
  · have hblk : Blk w g e cur := hh
    refine ⟨g, cap, hv, hb, ⟨cur, hblk⟩, ?_, hblk.frozen d, fun u => ⟨by simpa using h.1, .inr ⟨g, cap, cur.setIfInBounds d u, hv, hb, hblk.set_ d u, hnc, hcm, by simpa using hcur, ?_⟩⟩⟩
    · rw [hblk.cell d, ← hx, List.getElem?_take, if_pos (by omega)]
      simp
    · rw [← hx, Array.toList_setIfInBounds, List.take_set]
/-- The list with its first k and its last k elements exchanged. -/
def Revd (l c : List Int) (k : Nat) : Prop := c.length = l.length ∧ ∀ t, t < l.length → c.getD t 0 = if t < k ∨ l.length ≤ t + k then l.getD (l.length - 1 - t) 0 else l.getD t 0
theorem Revd.fin {l c : List Int} {k : Nat} (h : Revd l c k) (hk : l.length ≤ 2 * k + 1) : c = l.reverse := by
  apply List.ext_getElem (by simp [h.1])
  intro t h1 h2
  have ht : t < l.length := by rw [← h.1]; exact h1
  have h3 := h.2 t ht
  rw [List.getD_eq_getElem?_getD, List.getElem?_eq_getElem h1] at h3
  rw [List.getElem_reverse]
  have e : l.getD (l.length - 1 - t) 0 = l[l.length - 1 - t] := by rw [List.getD_eq_getElem?_getD, List.getElem?_eq_getElem (by omega)]; rfl
  rw [← e]
  simp only [Option.getD_some] at h3
  rw [h3]
  split
  · rfl
  · rename_i hn
    congr 1
    omega
theorem Revd.step {l c : List Int} {k : Nat} (h : Revd l c k) (hk : 2 * k + 1 < l.length) : Revd l ((c.set k (c.getD (l.length - 1 - k) 0)).set (l.length - 1 - k) (c.getD k 0)) (k + 1) := by
  refine ⟨by simp [h.1], fun t ht => ?_⟩
  have hc := h.1
  have e1 := h.2 k (by omega)
  have e2 := h.2 (l.length - 1 - k) (by omega)
  rw [if_neg (by omega)] at e1 e2
  rw [e1, e2]
  have h3 := h.2 t ht
  by_cases a : t = l.length - 1 - k
  · subst a
    rw [List.getD_eq_getElem?_getD, List.getElem?_set_self (by simp; omega), if_pos (by omega)]
    simp only [Option.getD_some]
    congr 1
    omega
  · by_cases b : t = k
    · subst b
      rw [List.getD_eq_getElem?_getD, List.getElem?_set_ne (by omega), List.getElem?_set_self (by omega), if_pos (by omega)]
      rfl
    · rw [List.getD_eq_getElem?_getD, List.getElem?_set_ne (by omega), List.getElem?_set_ne (by omega), ← List.getD_eq_getElem?_getD, h3]
      by_cases d : t < k ∨ l.length ≤ t + k
      · rw [if_pos d, if_pos (by omega)]
      · rw [if_neg d, if_neg (by omega)]
def RvRel (w : World) (base : Nat) (v : Value) (l : List Int) (m : Nat) (vi vj : Value) (wr : World) : Prop :=
  ∃ (k : Nat) (c : List Int), 2 * k ≤ l.length + 1 ∧ vi = .int .i64 k ∧ vj = .int .i64 ((l.length : Int) - 1 - (k : Int)) ∧ Revd l c k ∧ wr.ownsRow base 3 1 v l.length (c.map (Value.int .i64)) ∧ Fr v.ownBlock.toList w wr ∧ m = l.length + 1 - 2 * k
set_option maxHeartbeats 2000000 in
theorem reverse27_any {w : World} {base : Nat} {v : Value} {l : List Int} (h : w.ownsRow base 3 1 v l.length (l.map (Value.int .i64))) (hn : l.length ≤ 4096) :
    Calls Try.prog 99 #[v] w fun e w' => e = .returned (.tuple #[]) ∧ w'.ownsRow base 3 1 v l.length (l.reverse.map (Value.int .i64)) ∧ Fr v.ownBlock.toList w w' := by
  obtain ⟨A0, c0, rfl, -, -, -⟩ := own_slice h
  have HO := hide h
  clear h
  go_enter Try.func99, Try.ntmps99
  go_wp2
  go_loopg [2, 3] (l.length + 1) (fun m vi vj wr => RvRel w base (.slice A0 l.length c0) l m vi vj wr)
  case atStart => exact ⟨0, l, by omega, rfl, by simp, ⟨rfl, fun t ht => by rw [if_neg (by omega)]⟩, HO.out, Fr.refl _ _, rfl⟩
  case round =>
    obtain ⟨k, c, hk, rfl, rfl, hrv, hown, hfr, hmm⟩ := hrel
    have HM := hide hmm
    have HRV := hide hrv
    have HOWN := hide hown
    clear hmm hrv hown
    by_cases hlt : 2 * k + 1 < l.length
    · have hl' : (k : Int) < (l.length : Int) - 1 - (k : Int) := by omega
      obtain ⟨g, cp, hv, hgb, -, hc1, hf1, hset1⟩ := own_cell27 HOWN.out (show k < l.length by omega)
      obtain ⟨g', cp', hv', -, -, hc2, hf2, -⟩ := own_cell27 HOWN.out (show l.length - 1 - k < l.length by omega)
      injection hv with hv _ hcc
      subst hv
      subst hcc
      injection hv' with hv' _ hcc'
      clear hcc'
      injection hv' with hv'
      injection hv' with hv'
      subst hv'
      have hcl := HRV.out.1
      have e1 : wr.cell? ⟨g, k, none⟩ = some (.int .i64 (c.getD k 0)) := by rw [hc1, List.getElem?_map, List.getD_eq_getElem?_getD, List.getElem?_eq_getElem (by omega)]; rfl
      have e2 : wr.cell? ⟨g, l.length - 1 - k, none⟩ = some (.int .i64 (c.getD (l.length - 1 - k) 0)) := by rw [hc2, List.getElem?_map, List.getD_eq_getElem?_getD, List.getElem?_eq_getElem (by omega)]; rfl
      have HST := hide (HRV.out.step (by omega))
      have HS1 := hide hset1
      generalize c.getD k 0 = x at e1 HST
      generalize c.getD (l.length - 1 - k) 0 = y at e2 HST
      obtain ⟨j, hj⟩ : ∃ j, j = l.length - 1 - k := ⟨_, rfl⟩
      rw [← hj] at e2 hf2 HST
      have hji : (l.length : Int) - 1 - (k : Int) = (j : Int) := by omega
      have hkj : k ≠ j := by omega
      have hjl : (j : Int) < (l.length : Int) := by omega
      have hkl : (k : Int) < (l.length : Int) := by omega
      have hkji : (k : Int) < (j : Int) := by omega
      rw [hji]
      have HJ := hide hj
      have HJI := hide hji
      clear hc1 hc2 hset1 hcl hj hji hl'
      go_wp2
      go_region
      go_wp2
      go_roundg (l.length + 1 - 2 * (k + 1))
      case measure => rw [HM.out]; omega
      case rel =>
        have o1 := HS1.out (.int .i64 y)
        obtain ⟨g2, cp2, hv2, -, -, -, -, hset2⟩ := own_cell27 o1 (show j < l.length by omega)
        injection hv2 with hv2 _ _
        injection hv2 with hv2
        injection hv2 with hv2
        subst hv2
        have o2 := own_fr (hset2 (.int .i64 x)) ((Fr.refl [] _).drew) (fun _ _ => by simp)
        refine ⟨k + 1, (c.set k y).set j x, by have := HJ.out; omega, by go_num, ?_, HST.out, ?_, ((hfr.set (p := ⟨g, k, none⟩) (.inl (by simp [Value.ownBlock])) _).set (p := ⟨g, j, none⟩) (.inl (by simp [Value.ownBlock])) _).drew, rfl⟩
        · congr 1
          have := HJI.out
          omega
        · rw [List.map_set, List.map_set]
          exact o2
    · have hl' : ¬ (k : Int) < (l.length : Int) - 1 - (k : Int) := by omega
      have HF := hide (HRV.out.fin (by omega))
      go_wp2
      refine bodyPost_end (results_none rfl _ _ _) rfl ?_
      refine ⟨rfl, ?_, hfr⟩
      rw [← List.map_reverse, ← HF.out]
      exact HOWN.out
end Go.Proofs.Ytdocdgghphhdpaa

/- Walks: validState; a device whose rails' lists are known. -/
namespace Go.Proofs.Ytdocdgghphhdpaa
open Go.RowKit

set_option maxHeartbeats 400000 in
theorem validState_any (s : Int) (w : World) : Calls Try.prog 61 #[.int .i64 s] w fun e w' => e = .returned (.bool (decide (0 ≤ s ∧ s ≤ 4))) ∧ w = w' := by
  by_cases h0 : 0 ≤ s
  · have hd : decide (0 ≤ s ∧ s ≤ 4) = decide (s ≤ 4) := by simp [h0]
    have HD := hide hd
    clear hd
    go_enter Try.func61, Try.ntmps61
    go_wp2
    go_ret
    exact ⟨ret_bool HD.out.symm, rfl⟩
  · have hd : decide (0 ≤ s ∧ s ≤ 4) = false := by simp; omega
    have HD := hide hd
    clear hd
    go_enter Try.func61, Try.ntmps61
    go_wp2
    go_ret
    refine ⟨ret_bool ?_, rfl⟩
    rw [Bool.eq_iff_iff]
    simp
    omega
/-- The rails' lists of a device. -/
def RailsAt (w : World) (d : PD) (rl : Nat → List Int) : Prop := ∀ k, k < 4 → ∃ A cp, d.rf k = .slice A (rl k).length cp ∧ Row w A ((rl k).map (Value.int .i64))
theorem RailsAt.fr0 {w w' : World} {d : PD} {rl : Nat → List Int} (h : RailsAt w d rl) (k : Fr [] w w') : RailsAt w' d rl := fun i hi => by
  obtain ⟨A, cp, e, hr⟩ := h i hi
  exact ⟨A, cp, e, hr.fr0 k⟩
def needL (rl : Nat → List Int) (k : Nat) : List Int := if k = 4 then [] else rl k
theorem RailsAt.need {w : World} {d : PD} {rl : Nat → List Int} (h : RailsAt w d rl) {k : Nat} (hk : k ≤ 4) : ∃ A cp, d.need k = .slice A (needL rl k).length cp ∧ Row w A ((needL rl k).map (Value.int .i64)) := by
  unfold PD.need needL
  by_cases h4 : k = 4
  · rw [if_pos h4, if_pos h4]
    exact ⟨none, 0, rfl, Row.nil _ _⟩
  · rw [if_neg h4, if_neg h4]
    exact h k (by omega)
/-- What Change returns: the rails to acquire, those to release, the error. -/
def changeM (rl : Nat → List Int) (a b : Int) : List Int × List Int × Int :=
  if 0 ≤ a ∧ a ≤ 4 ∧ 0 ≤ b ∧ b ≤ 4 then (if ascB (needL rl a.toNat) = true ∧ ascB (needL rl b.toNat) = true then (diffM (needL rl b.toNat) (needL rl a.toNat), (diffM (needL rl a.toNat) (needL rl b.toNat)).reverse, 0) else ([], [], 1)) else ([], [], 1)
end Go.Proofs.Ytdocdgghphhdpaa

/- Walks: device.Change. -/
namespace Go.Proofs.Ytdocdgghphhdpaa
open Go.RowKit

def ChRet (w : World) (r : List Int × List Int × Int) (e : Ending) (w' : World) : Prop :=
  ∃ v1 v2, e = .returned (.tuple #[v1, v2, .int .i64 r.2.2]) ∧ w'.ownsRow w.heap.size 3 1 v1 r.1.length (r.1.map (Value.int .i64)) ∧ w'.ownsRow w.heap.size 3 1 v2 r.2.1.length (r.2.1.map (Value.int .i64)) ∧ Fr [] w w'
theorem changeM_bad {rl : Nat → List Int} {a b : Int} (h : ¬ (0 ≤ a ∧ a ≤ 4 ∧ 0 ≤ b ∧ b ≤ 4)) : changeM rl a b = ([], [], 1) := by
  unfold changeM
  rw [if_neg h]
theorem ChRet.bad {rl : Nat → List Int} {a b : Int} {w w' : World} (h : changeM rl a b = ([], [], 1)) (hf : Fr [] w w') : ChRet w (changeM rl a b) (.returned (.tuple #[.slice none 0 0, .slice none 0 0, .int .i64 1])) w' := by
  rw [h]
  exact ⟨_, _, rfl, own_nil _ _ _ _, own_nil _ _ _ _, hf⟩
/-- The cells of a power device in a block. -/
abbrev PD13 (w : World) (g : Nat) (d : PD) : Prop :=
  w.cell? ⟨g, 0, none⟩ = some (.int .i64 d.par) ∧ w.cell? ⟨g, 1, none⟩ = some (d.rf 0) ∧ w.cell? ⟨g, 2, none⟩ = some (d.rf 1) ∧ w.cell? ⟨g, 3, none⟩ = some (d.rf 2) ∧ w.cell? ⟨g, 4, none⟩ = some (d.rf 3) ∧
  w.cell? ⟨g, 5, none⟩ = some (.int .i64 (d.df 0)) ∧ w.cell? ⟨g, 6, none⟩ = some (.int .i64 (d.df 1)) ∧ w.cell? ⟨g, 7, none⟩ = some (.int .i64 (d.df 2)) ∧ w.cell? ⟨g, 8, none⟩ = some (.int .i64 (d.df 3)) ∧ w.cell? ⟨g, 9, none⟩ = some (.int .i64 (d.df 4)) ∧ w.cell? ⟨g, 10, none⟩ = some (.int .i64 (d.df 5)) ∧
  w.cell? ⟨g, 11, none⟩ = some (.int .i64 d.wd) ∧ w.cell? ⟨g, 12, none⟩ = some (.int .i64 d.ws)
theorem PD13.fr0 {w w' : World} {g : Nat} {d : PD} (h : PD13 w g d) (k : Fr [] w w') : PD13 w' g d := by
  obtain ⟨c0, c1, c2, c3, c4, c5, c6, c7, c8, c9, c10, c11, c12⟩ := h
  exact ⟨k.cell c0 (by simp), k.cell c1 (by simp), k.cell c2 (by simp), k.cell c3 (by simp), k.cell c4 (by simp), k.cell c5 (by simp), k.cell c6 (by simp), k.cell c7 (by simp), k.cell c8 (by simp), k.cell c9 (by simp), k.cell c10 (by simp), k.cell c11 (by simp), k.cell c12 (by simp)⟩
theorem PD13.keep {w w' : World} {g : Nat} {d : PD} (h : PD13 w g d) (k : Fr [] w w') : Fr [] w w' ∧ PD13 w' g d := ⟨k, h.fr0 k⟩
theorem PD13.keep2 {w w1 w' : World} {g : Nat} {d : PD} (h : Fr [] w w1 ∧ PD13 w1 g d) (k : Fr [] w1 w') : Fr [] w w' ∧ PD13 w' g d := ⟨h.1.call k, h.2.fr0 k⟩
theorem PD13.new (w : World) (t : TypeId) (d : PD) : PD13 (w.alloc (.cells d.cells t)) w.heap.size d := by
  have h := Blk.new w t d.cells
  exact ⟨h.cell 0, h.cell 1, h.cell 2, h.cell 3, h.cell 4, h.cell 5, h.cell 6, h.cell 7, h.cell 8, h.cell 9, h.cell 10, h.cell 11, h.cell 12⟩
set_option maxHeartbeats 4000000 in
set_option maxRecDepth 100000 in
theorem change27_any (d : PD) (rl : Nat → List Int) (a b : Int) (w : World) (hra : RailsAt w d rl) (hn : ∀ k, (rl k).length ≤ 4096) :
    Calls Try.prog 53 #[.agg d.cells, .int .i64 a, .int .i64 b] w (ChRet w (changeM rl a b)) := by
  have hfr : Fr [] w (w.alloc (.cells d.cells 46)) := (Fr.refl _ _).alloc _
  have HP := hide (PD13.new w 46 d)
  have HRA := hide hra
  have HN := hide hn
  clear hra hn
  by_cases ha : 0 ≤ a ∧ a ≤ 4
  · have hda : decide (0 ≤ a ∧ a ≤ 4) = true := decide_eq_true ha
    by_cases hb : 0 ≤ b ∧ b ≤ 4
    · have hdb : decide (0 ≤ b ∧ b ≤ 4) = true := decide_eq_true hb
      obtain ⟨i, hi⟩ := Int.eq_ofNat_of_zero_le ha.1
      obtain ⟨j, hj⟩ := Int.eq_ofNat_of_zero_le hb.1
      subst hi hj
      have hi4 : i ≤ 4 := by omega
      have hj4 : j ≤ 4 := by omega
      have HM := hide (show changeM rl i j = if ascB (needL rl i) = true ∧ ascB (needL rl j) = true then (diffM (needL rl j) (needL rl i), (diffM (needL rl i) (needL rl j)).reverse, 0) else ([], [], 1) by
        unfold changeM
        rw [if_pos ⟨ha.1, ha.2, hb.1, hb.2⟩, Int.toNat_natCast, Int.toNat_natCast])
      clear ha hb
      go_enter Try.func53, Try.ntmps53
      go_wp2_with fail
      refine (validState_any _ _).mono ?_
      rintro e w1 ⟨rfl, rfl⟩
      rw [hda]
      go_wp2_with fail
      refine (validState_any _ _).mono ?_
      rintro e w1 ⟨rfl, rfl⟩
      rw [hdb]
      go_wp2_with fail
      have hp1 := HP.out
      generalize w.alloc (.cells d.cells 46) = w1 at hfr hp1 ⊢
      generalize w.heap.size = g at hp1 ⊢
      clear HP
      have HQ := hide hp1
      clear hp1
      go_region_held3 (fun w' => Fr [] w1 w' ∧ w'.cell? ⟨g, 0, none⟩ = some (.int .i64 d.par) ∧ w'.cell? ⟨g, 1, none⟩ = some (d.rf 0) ∧ w'.cell? ⟨g, 2, none⟩ = some (d.rf 1) ∧ w'.cell? ⟨g, 3, none⟩ = some (d.rf 2) ∧ w'.cell? ⟨g, 4, none⟩ = some (d.rf 3) ∧ w'.cell? ⟨g, 5, none⟩ = some (.int .i64 (d.df 0)) ∧ w'.cell? ⟨g, 6, none⟩ = some (.int .i64 (d.df 1)) ∧ w'.cell? ⟨g, 7, none⟩ = some (.int .i64 (d.df 2)) ∧ w'.cell? ⟨g, 8, none⟩ = some (.int .i64 (d.df 3)) ∧ w'.cell? ⟨g, 9, none⟩ = some (.int .i64 (d.df 4)) ∧ w'.cell? ⟨g, 10, none⟩ = some (.int .i64 (d.df 5)) ∧ w'.cell? ⟨g, 11, none⟩ = some (.int .i64 d.wd) ∧ w'.cell? ⟨g, 12, none⟩ = some (.int .i64 d.ws)) (first | exact PD13.keep HQ.out (Fr.refl _ _).drew | exact PD13.keep2 (by assumption) (Fr.refl _ _).drew | exact PD13.keep2 (by assumption) hf) (first | (go_at_call 96; refine (needed27_any d _ (by first | exact hi4 | exact hj4) _).mono ?_; rintro e w' ⟨rfl, hf⟩))
      obtain ⟨hfx, -⟩ := (show Fr [] w1 w' ∧ PD13 w' g d by first | assumption | exact PD13.keep2 (by assumption) hf)
      have hf2 : Fr [] w w' := hfr.call hfx
      obtain ⟨A1, cp1, e1, r1⟩ := HRA.out.need hi4
      obtain ⟨A2, cp2, e2, r2⟩ := HRA.out.need hj4
      have hn1 : (needL rl i).length ≤ 4096 := by unfold needL; split; simp; exact HN.out _
      have hn2 : (needL rl j).length ≤ 4096 := by unfold needL; split; simp; exact HN.out _
      rw [e1, e2]
      have HR1 := hide (r1.fr0 hf2)
      have HR2 := hide (r2.fr0 hf2)
      clear e1 e2 r1 r2 hfx hf HQ hfr HRA HN hda hdb
      generalize needL rl i = l1 at HM HR1 hn1 ⊢
      generalize needL rl j = l2 at HM HR2 hn2 ⊢
      by_cases h1 : ascB l1 = true
      · by_cases h2 : ascB l2 = true
        · rw [if_pos ⟨h1, h2⟩] at HM
          go_wp2_with fail
          refine (asc27_any A1 cp1 l1 w' HR1.out (by unfold maxLen; omega)).mono ?_
          rintro e w3 ⟨rfl, hf3⟩
          rw [h1]
          go_wp2_with fail
          refine (asc27_any A2 cp2 l2 w3 (HR2.out.fr0 hf3) (by unfold maxLen; omega)).mono ?_
          rintro e w4 ⟨rfl, hf4⟩
          rw [h2]
          have hf24 := hf3.call hf4
          have hf04 := hf2.call hf24
          have HA1 := hide (asc_of h1)
          have HA2 := hide (asc_of h2)
          clear h1 h2
          go_wp2_with fail
          refine (difference_any A2 A1 cp2 cp1 l2 l1 w4 (HR2.out.fr0 hf24) (HR1.out.fr0 hf24) hn2 hn1 HA1.out).mono ?_
          rintro e w5 ⟨v1, rfl, ho1, hf5⟩
          have hf25 := hf24.call hf5
          have HO1 := hide (own_base ho1 hf04.size)
          clear ho1
          go_wp2_with fail
          refine (difference_any A1 A2 cp1 cp2 l1 l2 w5 (HR1.out.fr0 hf25) (HR2.out.fr0 hf25) hn1 hn2 HA2.out).mono ?_
          rintro e w6 ⟨v2, rfl, ho2, hf6⟩
          have hll : (diffM l1 l2).length ≤ 4096 := Nat.le_trans (List.length_filter_le _ _) hn1
          have HL := hide hll
          have HO2 := hide ho2
          clear hll ho2
          go_wp2_with fail
          refine (reverse27_any HO2.out HL.out).mono ?_
          rintro e w7 ⟨rfl, ho7, hf7⟩
          have HO7 := hide ho7
          have hsz := (hf04.call hf5).size
          have hf08 : Fr [] w w7 := ((hf04.call hf5).call hf6).step hf7 (fun k hk => .inr (by
            have := (own_block HO2.out (show v2.ownBlock = some k by simpa using hk)).1
            omega))
          have HO17 := hide (own_fr (own_fr HO1.out hf6 (fun _ _ => by simp)) hf7 (fun k hk hm => by
            have h1 := (own_block HO2.out (show v2.ownBlock = some k by simpa using hm)).1
            have h2 := (own_block HO1.out hk).2.1
            omega))
          clear ho7
          go_wp2
          go_ret3
          refine ⟨v1, v2, ?_, ?_, ?_, hf08⟩
          · rw [HM.out]
            rfl
          · rw [HM.out]
            exact HO17.out
          · rw [HM.out]
            have h8 := own_base HO7.out hsz
            rw [List.length_reverse]
            exact h8
        · rw [if_neg (fun h => h2 h.2)] at HM
          have h2' : ascB l2 = false := by simpa using h2
          go_wp2_with fail
          refine (asc27_any A1 cp1 l1 w' HR1.out (by unfold maxLen; omega)).mono ?_
          rintro e w3 ⟨rfl, hf3⟩
          rw [h1]
          go_wp2_with fail
          refine (asc27_any A2 cp2 l2 w3 (HR2.out.fr0 hf3) (by unfold maxLen; omega)).mono ?_
          rintro e w4 ⟨rfl, hf4⟩
          rw [h2']
          go_wp2
          go_ret3
          exact ChRet.bad HM.out ((hf2.call hf3).call hf4)
      · rw [if_neg (fun h => h1 h.1)] at HM
        have h1' : ascB l1 = false := by simpa using h1
        go_wp2_with fail
        refine (asc27_any A1 cp1 l1 w' HR1.out (by unfold maxLen; omega)).mono ?_
        rintro e w3 ⟨rfl, hf3⟩
        rw [h1']
        go_wp2
        go_ret3
        exact ChRet.bad HM.out (hf2.call hf3)
    · have hdb : decide (0 ≤ b ∧ b ≤ 4) = false := decide_eq_false hb
      have HM := hide (changeM_bad (rl := rl) (a := a) (b := b) (fun h => hb ⟨h.2.2.1, h.2.2.2⟩))
      clear ha hb
      go_enter Try.func53, Try.ntmps53
      go_wp2_with fail
      refine (validState_any _ _).mono ?_
      rintro e w1 ⟨rfl, rfl⟩
      rw [hda]
      go_wp2_with fail
      refine (validState_any _ _).mono ?_
      rintro e w1 ⟨rfl, rfl⟩
      rw [hdb]
      go_wp2
      go_ret3
      exact ChRet.bad HM.out hfr
  · have hda : decide (0 ≤ a ∧ a ≤ 4) = false := decide_eq_false ha
    have HM := hide (changeM_bad (rl := rl) (a := a) (b := b) (fun h => ha ⟨h.1, h.2.1⟩))
    clear ha
    go_enter Try.func53, Try.ntmps53
    go_wp2_with fail
    refine (validState_any _ _).mono ?_
    rintro e w1 ⟨rfl, rfl⟩
    rw [hda]
    go_wp2
    go_ret3
    exact ChRet.bad HM.out hfr
end Go.Proofs.Ytdocdgghphhdpaa

