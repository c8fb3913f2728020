/- Walks: the reference's Change. -/
import Derived.Test.YtdocdgghphhdpaaMgDeviceTree3
namespace Go.Proofs.Ytdocdgghphhdpaa
open Go.RowKit

def Rc1Rel (w : World) (l u : List Int) (m : Nat) (v i : Value) (wr : World) : Prop :=
  ∃ k : Nat, k ≤ l.length ∧ i = .int .i64 k ∧ wr.ownsRow w.heap.size 3 1 v (diffM (l.take k) u).length ((diffM (l.take k) u).map (Value.int .i64)) ∧ Fr [] w wr ∧ m = l.length - k
def Rc2Rel (w : World) (l u : List Int) (m : Nat) (v i : Value) (wr : World) : Prop :=
  ∃ k : Nat, k ≤ l.length ∧ i = .int .i64 ((k : Int) - 1) ∧ wr.ownsRow w.heap.size 3 1 v (diffM (l.drop k) u).reverse.length ((diffM (l.drop k) u).reverse.map (Value.int .i64)) ∧ Fr [] w wr ∧ m = k
theorem diffM_cons (l u : List Int) (x : Int) : (diffM (x :: l) u).reverse = if x ∈ u then (diffM l u).reverse else (diffM l u).reverse ++ [x] := by
  unfold diffM
  by_cases h : x ∈ u <;> simp [h]
theorem diffM_le (l u : List Int) : (diffM l u).length ≤ l.length := List.length_filter_le _ _
set_option maxHeartbeats 4000000 in
set_option maxRecDepth 100000 in
theorem rchange27_any (d : PD) (rl : Nat → List Int) (a b : Int) (w : World) (hra : RailsAt w d rl) (hn : ∀ k, (rl k).length ≤ 4096) :
    Calls Try.prog 68 #[.agg d.cells, .int .i64 a, .int .i64 b] w (ChRet w (changeM rl a b)) := by
  obtain ⟨i0, hi0, hz0, hz1, hz2⟩ := info_parts int_info27
  have HI := hide (And.intro hi0 (And.intro hz0 (And.intro hz1 hz2)))
  have hfr : Fr [] w (w.alloc (.cells d.cells 46)) := (Fr.refl _ _).alloc _
  have HP := hide (PD13.new w 46 d)
  have HRA := hide hra
  have HN := hide hn
  clear hra hn hi0 hz0 hz1 hz2
  by_cases ha0 : a < 0
  · have HM := hide (changeM_bad (rl := rl) (a := a) (b := b) (fun h => by omega))
    go_enter Try.func68, Try.ntmps68
    go_wp2
    go_ret3
    exact ChRet.bad HM.out hfr
  by_cases ha4 : 4 < a
  · have HM := hide (changeM_bad (rl := rl) (a := a) (b := b) (fun h => by omega))
    go_enter Try.func68, Try.ntmps68
    go_wp2
    go_ret3
    exact ChRet.bad HM.out hfr
  by_cases hb0 : b < 0
  · have HM := hide (changeM_bad (rl := rl) (a := a) (b := b) (fun h => by omega))
    go_enter Try.func68, Try.ntmps68
    go_wp2
    go_ret3
    exact ChRet.bad HM.out hfr
  by_cases hb4 : 4 < b
  · have HM := hide (changeM_bad (rl := rl) (a := a) (b := b) (fun h => by omega))
    go_enter Try.func68, Try.ntmps68
    go_wp2
    go_ret3
    exact ChRet.bad HM.out hfr
  obtain ⟨i, hi⟩ := Int.eq_ofNat_of_zero_le (show 0 ≤ a by omega)
  obtain ⟨j, hj⟩ := Int.eq_ofNat_of_zero_le (show 0 ≤ b by omega)
  subst hi hj
  have hi4 : i ≤ 4 := by omega
  have hj4 : j ≤ 4 := by omega
  have HM := hide (show changeM rl i j = if ascB (needL rl i) = true ∧ ascB (needL rl j) = true then (diffM (needL rl j) (needL rl i), (diffM (needL rl i) (needL rl j)).reverse, 0) else ([], [], 1) by
    unfold changeM
    rw [if_pos ⟨by omega, by omega, by omega, by omega⟩, Int.toNat_natCast, Int.toNat_natCast])
  go_enter Try.func68, Try.ntmps68
  go_wp2_with fail
  have hp1 := HP.out
  generalize w.alloc (.cells d.cells 46) = w1 at hfr hp1 ⊢
  generalize w.heap.size = g at hp1 ⊢
  clear HP ha0 ha4 hb0 hb4
  have HQ := hide hp1
  clear hp1
  go_region_held3 (fun w' => Fr [] w1 w' ∧ w'.cell? ⟨g, 0, none⟩ = some (.int .i64 d.par) ∧ w'.cell? ⟨g, 1, none⟩ = some (d.rf 0) ∧ w'.cell? ⟨g, 2, none⟩ = some (d.rf 1) ∧ w'.cell? ⟨g, 3, none⟩ = some (d.rf 2) ∧ w'.cell? ⟨g, 4, none⟩ = some (d.rf 3) ∧ w'.cell? ⟨g, 5, none⟩ = some (.int .i64 (d.df 0)) ∧ w'.cell? ⟨g, 6, none⟩ = some (.int .i64 (d.df 1)) ∧ w'.cell? ⟨g, 7, none⟩ = some (.int .i64 (d.df 2)) ∧ w'.cell? ⟨g, 8, none⟩ = some (.int .i64 (d.df 3)) ∧ w'.cell? ⟨g, 9, none⟩ = some (.int .i64 (d.df 4)) ∧ w'.cell? ⟨g, 10, none⟩ = some (.int .i64 (d.df 5)) ∧ w'.cell? ⟨g, 11, none⟩ = some (.int .i64 d.wd) ∧ w'.cell? ⟨g, 12, none⟩ = some (.int .i64 d.ws)) (first | exact PD13.keep HQ.out (Fr.refl _ _).drew | exact PD13.keep2 (by assumption) (Fr.refl _ _).drew | exact PD13.keep2 (by assumption) hf) (first | (go_at_call 110; refine (needs27_any d _ (by first | exact hi4 | exact hj4) _).mono ?_; rintro e w' ⟨rfl, hf⟩))
  obtain ⟨hfx, -⟩ := (show Fr [] w1 w' ∧ PD13 w' g d by first | assumption | exact PD13.keep2 (by assumption) hf)
  have hf2 : Fr [] w w' := hfr.call hfx
  obtain ⟨A1, cp1, e1, r1⟩ := HRA.out.need hi4
  obtain ⟨A2, cp2, e2, r2⟩ := HRA.out.need hj4
  have hn1 : (needL rl i).length ≤ 4096 := by unfold needL; split; simp; exact HN.out _
  have hn2 : (needL rl j).length ≤ 4096 := by unfold needL; split; simp; exact HN.out _
  rw [e1, e2]
  have HR1 := hide (r1.fr0 hf2)
  have HR2 := hide (r2.fr0 hf2)
  clear e1 e2 r1 r2 hfx hf HQ hfr HRA HN
  generalize needL rl i = l1 at HM HR1 hn1 ⊢
  generalize needL rl j = l2 at HM HR2 hn2 ⊢
  by_cases h1 : ascB l1 = true
  · by_cases h2 : ascB l2 = true
    · rw [if_pos ⟨h1, h2⟩] at HM
      go_wp2_with fail
      refine (rasc27_any A1 cp1 l1 w' HR1.out (by unfold maxLen; omega)).mono ?_
      rintro e w3 ⟨rfl, hf3⟩
      rw [h1]
      go_wp2_with fail
      refine (rasc27_any A2 cp2 l2 w3 (HR2.out.fr0 hf3) (by unfold maxLen; omega)).mono ?_
      rintro e w4 ⟨rfl, hf4⟩
      rw [h2]
      have hf24 := hf3.call hf4
      have hf04 := hf2.call hf24
      have HR1' := hide (HR1.out.fr0 hf24)
      have HR2' := hide (HR2.out.fr0 hf24)
      clear h1 h2 hf3 hf4 hf24 HR1 HR2 hf2
      go_wp2
      go_loopg [11, 13] l2.length (fun m v i wr => Rc1Rel w4 l2 l1 m v i wr)
      case atStart => exact ⟨0, by omega, rfl, own_nil _ _ _ _, Fr.refl _ _, rfl⟩
      case round =>
        obtain ⟨k, hk, rfl, hown, hfr, hmm⟩ := hrel
        have HMM := hide hmm
        clear hmm
        obtain ⟨A5, c5, rfl, -, -, -⟩ := own_slice hown
        have HOWN := hide hown
        clear hown
        by_cases hlt : k < l2.length
        · obtain ⟨x, hx⟩ : ∃ x, l2[k]? = some x := ⟨_, List.getElem?_eq_getElem hlt⟩
          obtain ⟨ob, oo, e, c1⟩ := (HR2'.out.fr0 hfr).int hx
          subst e
          have hkl : (k : Int) < (l2.length : Int) := by omega
          have hts : l2.take (k + 1) = l2.take k ++ [x] := by rw [List.take_add_one, hx]; rfl
          have HSN := hide (diffM_snoc (l2.take k) l1 x)
          rw [← hts] at HSN
          have hll : (diffM (l2.take k) l1).length ≤ 4096 := by
            have h1 := diffM_le (l2.take k) l1
            have h2 : (l2.take k).length ≤ l2.length := by rw [List.length_take]; omega
            omega
          clear hx hts
          generalize diffM (l2.take k) l1 = F at HOWN HSN hll ⊢
          go_wp2_with fail
          refine (has27_any A1 cp1 l1 x wr (HR1'.out.fr0 hfr) (by unfold maxLen; omega)).mono ?_
          rintro e w5 ⟨rfl, rfl⟩
          by_cases hin : x ∈ l1
          · rw [decide_eq_true hin]
            rw [if_pos hin] at HSN
            clear hin
            go_wp2
            go_roundg (l2.length - (k + 1))
            case measure => rw [HMM.out]; omega
            case rel => exact ⟨k + 1, by omega, by go_num, by rw [HSN.out]; exact HOWN.out, hfr, rfl⟩
          · rw [decide_eq_false hin]
            rw [if_neg hin] at HSN
            have hsz : w4.heap.size ≤ wr.heap.size + 1 := by have := hfr.size; omega
            clear hin
            go_wp2_with (first
              | (at_builtin
                 refine wpList_append_row _ rfl (.tmp 56) (.tmp 61) _ rfl w4.heap.size 3 i0 (.int .i64 0) 1 8 Try.underlying34 HI.out.1 HI.out.2.1 HI.out.2.2.1 HI.out.2.2.2 rfl (by omega) (.slice A5 F.length c5) F.length (F.map (Value.int .i64)) rfl
                   (own_fr HOWN.out ((Fr.refl [] _).alloc _) (fun _ _ => by simp)) (some ⟨wr.heap.size, 0, none⟩) 1 1 [.int .i64 x] rfl rfl (row_one wr _ _) (by intro u hu; simp at hu; subst hu; rfl) (by simp only [maxLen]; omega) (by omega) (by simpa using hsz) ?_
                 intro v1 w9 hown9 hg9 hat9))
            have hf9 : Fr [] w4 w9 := (hfr.alloc _).grown hg9 (fun y hy => .inr (own_block HOWN.out hy).1)
            go_roundg (l2.length - (k + 1))
            case measure => rw [HMM.out]; omega
            case rel =>
              refine ⟨k + 1, by omega, by go_num, ?_, hf9, rfl⟩
              rw [HSN.out, List.length_append, List.length_singleton, List.map_append]
              exact hown9
        · have hkl : ¬ (k : Int) < (l2.length : Int) := by omega
          rw [List.take_of_length_le (by omega)] at HOWN ⊢
          have HR1'' := hide (HR1'.out.fr0 hfr)
          have HR2'' := hide (HR2'.out.fr0 hfr)
          have HO1 := hide (own_base HOWN.out hf04.size)
          have hf05 := hf04.call hfr
          clear HR1' HR2' HOWN hfr HMM hlt hk hf04
          go_wp2
          clear hkl
          obtain ⟨wq, hwq⟩ : ∃ wq, wq = wr := ⟨_, rfl⟩
          subst hwq
          go_loopg [12, 14] l1.length (fun m v i w2 => Rc2Rel wq l1 l2 m v i w2)
          case atStart => exact ⟨l1.length, by omega, by rfl, by rw [List.drop_of_length_le (by omega)]; exact own_nil _ _ _ _, Fr.refl _ _, rfl⟩
          case round =>
            obtain ⟨q, hq, rfl, hown, hfr, hmm⟩ := hrel
            have HMM := hide hmm
            clear hmm
            obtain ⟨A6, c6, rfl, -, -, -⟩ := own_slice hown
            have HOWN := hide hown
            clear hown
            by_cases hlt : 0 < q
            · obtain ⟨x, hx⟩ : ∃ x, l1[q - 1]? = some x := ⟨_, List.getElem?_eq_getElem (by omega)⟩
              obtain ⟨ob, oo, e, c1⟩ := (HR1''.out.fr0 hfr).int hx
              subst e
              obtain ⟨r, hr⟩ : ∃ r, r = q - 1 := ⟨_, rfl⟩
              rw [← hr] at c1 hx
              have hqr : (q : Int) - 1 = (r : Int) := by omega
              rw [hqr]
              have hrl : (r : Int) < (l1.length : Int) := by omega
              have hr0 : (0 : Int) ≤ (r : Int) := by omega
              have hts : l1.drop r = x :: l1.drop q := by
                obtain ⟨h1, h2⟩ := List.getElem?_eq_some_iff.1 hx
                rw [List.drop_eq_getElem_cons h1, h2, show r + 1 = q by omega]
              have HSN := hide (diffM_cons (l1.drop q) l2 x)
              rw [← hts] at HSN
              have hll : (diffM (l1.drop q) l2).reverse.length ≤ 4096 := by
                have h1 := diffM_le (l1.drop q) l2
                have h2 : (l1.drop q).length ≤ l1.length := by rw [List.length_drop]; omega
                rw [List.length_reverse]
                omega
              have HRR := hide hr
              clear hx hts hqr hr
              generalize (diffM (l1.drop q) l2).reverse = F at HOWN HSN hll ⊢
              go_wp2_with fail
              refine (has27_any A2 cp2 l2 x wr (HR2''.out.fr0 hfr) (by unfold maxLen; omega)).mono ?_
              rintro e w5 ⟨rfl, rfl⟩
              by_cases hin : x ∈ l2
              · rw [decide_eq_true hin]
                rw [if_pos hin] at HSN
                clear hin
                go_wp2
                go_roundg r
                case measure => rw [HMM.out, HRR.out]; omega
                case rel => exact ⟨r, by omega, by go_num, by rw [HSN.out]; exact HOWN.out, hfr, rfl⟩
              · rw [decide_eq_false hin]
                rw [if_neg hin] at HSN
                have hsz : wq.heap.size ≤ wr.heap.size + 1 := by have := hfr.size; omega
                clear hin
                go_wp2_with (first
                  | (at_builtin
                     refine wpList_append_row _ rfl (.tmp 77) (.tmp 82) _ rfl wq.heap.size 3 i0 (.int .i64 0) 1 8 Try.underlying34 HI.out.1 HI.out.2.1 HI.out.2.2.1 HI.out.2.2.2 rfl (by omega) (.slice A6 F.length c6) F.length (F.map (Value.int .i64)) rfl
                       (own_fr HOWN.out ((Fr.refl [] _).alloc _) (fun _ _ => by simp)) (some ⟨wr.heap.size, 0, none⟩) 1 1 [.int .i64 x] rfl rfl (row_one wr _ _) (by intro u hu; simp at hu; subst hu; rfl) (by simp only [maxLen]; omega) (by omega) (by simpa using hsz) ?_
                     intro v1 w9 hown9 hg9 hat9))
                have hf9 : Fr [] wq w9 := (hfr.alloc _).grown hg9 (fun y hy => .inr (own_block HOWN.out hy).1)
                go_roundg r
                case measure => rw [HMM.out, HRR.out]; omega
                case rel =>
                  refine ⟨r, by omega, by go_num, ?_, hf9, rfl⟩
                  rw [HSN.out, List.length_append, List.length_singleton, List.map_append]
                  exact hown9
            · obtain rfl : q = 0 := by omega
              rw [List.drop_zero] at HOWN ⊢
              go_wp2
              go_ret3
              refine ⟨.slice A5 (diffM l2 l1).length c5, .slice A6 (diffM l1 l2).reverse.length c6, ?_, ?_, ?_, hf05.call hfr⟩
              · rw [HM.out]
                rfl
              · rw [HM.out]
                exact own_fr HO1.out hfr (fun _ _ => by simp)
              · rw [HM.out]
                exact own_base HOWN.out hf05.size
    · rw [if_neg (fun h => h2 h.2)] at HM
      have h2' : ascB l2 = false := by simpa using h2
      go_wp2_with fail
      refine (rasc27_any A1 cp1 l1 w' HR1.out (by unfold maxLen; omega)).mono ?_
      rintro e w3 ⟨rfl, hf3⟩
      rw [h1]
      go_wp2_with fail
      refine (rasc27_any A2 cp2 l2 w3 (HR2.out.fr0 hf3) (by unfold maxLen; omega)).mono ?_
      rintro e w4 ⟨rfl, hf4⟩
      rw [h2']
      go_wp2
      go_ret3
      exact ChRet.bad HM.out ((hf2.call hf3).call hf4)
  · rw [if_neg (fun h => h1 h.1)] at HM
    have h1' : ascB l1 = false := by simpa using h1
    go_wp2_with fail
    refine (rasc27_any A1 cp1 l1 w' HR1.out (by unfold maxLen; omega)).mono ?_
    rintro e w3 ⟨rfl, hf3⟩
    rw [h1']
    go_wp2
    go_ret3
    exact ChRet.bad HM.out (hf2.call hf3)
end Go.Proofs.Ytdocdgghphhdpaa

