/- Walks: law27's awake. -/
import Derived.Test.YtdocdgghphhdpaaDevW12Mg
import Derived.Test.YtdocdgghphhdpaaMgSuspFail15
namespace Go.Proofs.Ytdocdgghphhdpaa
open Go.RowKit

def demoRl (k : Nat) : List Int := if k = 0 then [0, 2] else if k = 3 then [2] else []
def demoD (g : Nat) : PD := { par := -1, rf := fun k => if k = 0 then .slice (some ⟨g, 0, none⟩) 2 2 else if k = 3 then .slice (some ⟨g + 1, 0, none⟩) 1 1 else .slice none 0 0, df := fun k => ([0, 3, 3, 4, 4, 4] : List Int).getD k 0, wd := 2, ws := 3 }
theorem demo_ch1 : changeM demoRl 4 0 = ([0, 2], [], 0) := by decide +kernel
theorem demo_ch2 : changeM demoRl 0 3 = ([], [0], 0) := by decide +kernel
theorem demo_t1 (g : Nat) : targetM (demoD g) 3 true = (2, 0) := by rfl
theorem demo_t2 (g : Nat) : targetM (demoD g) 4 true = (0, 13) := by rfl
theorem demo_c1 (g : Nat) : dcheckM [⟨demoD g, demoRl⟩] 3 = 0 := by rfl
theorem demo_c2 (g : Nat) : dcheckM [⟨demoD g, demoRl⟩] 2 = 1 := by rfl
theorem demo_rails {w w' : World} (h : Fr [] ((w.alloc (.cells #[.int .i64 0, .int .i64 2] 3)).alloc (.cells #[.int .i64 2] 3)) w') : RailsAt w' (demoD w.heap.size) demoRl := by
  refine RailsAt.fr0 (w := (w.alloc (.cells #[.int .i64 0, .int .i64 2] 3)).alloc (.cells #[.int .i64 2] 3)) (fun k hk => ?_) h
  have h4 : k = 0 ∨ k = 1 ∨ k = 2 ∨ k = 3 := by omega
  rcases h4 with rfl | rfl | rfl | rfl
  · exact ⟨some ⟨w.heap.size, 0, none⟩, 2, rfl, (row_lit w #[.int .i64 0, .int .i64 2] 3 rfl).fr0 ((Fr.refl [] _).alloc _)⟩
  · exact ⟨none, 0, rfl, Row.nil _ _⟩
  · exact ⟨none, 0, rfl, Row.nil _ _⟩
  · exact ⟨some ⟨w.heap.size + 1, 0, none⟩, 1, rfl, row_lit _ #[.int .i64 2] 3 (by simp)⟩
theorem demo_len (k : Nat) : (demoRl k).length ≤ 4096 := by
  unfold demoRl
  split
  · decide
  · split <;> decide
abbrev demoAt (w : World) (b g : Nat) : Prop := w.cell? ⟨b, 0, none⟩ = some (.int .i64 (-1)) ∧ w.cell? ⟨b, 1, none⟩ = some (.slice (some ⟨g, 0, none⟩) 2 2) ∧ w.cell? ⟨b, 2, none⟩ = some (.slice none 0 0) ∧ w.cell? ⟨b, 3, none⟩ = some (.slice none 0 0) ∧ w.cell? ⟨b, 4, none⟩ = some (.slice (some ⟨g + 1, 0, none⟩) 1 1) ∧ w.cell? ⟨b, 5, none⟩ = some (.int .i64 0) ∧ w.cell? ⟨b, 6, none⟩ = some (.int .i64 3) ∧ w.cell? ⟨b, 7, none⟩ = some (.int .i64 3) ∧ w.cell? ⟨b, 8, none⟩ = some (.int .i64 4) ∧ w.cell? ⟨b, 9, none⟩ = some (.int .i64 4) ∧ w.cell? ⟨b, 10, none⟩ = some (.int .i64 4) ∧ w.cell? ⟨b, 11, none⟩ = some (.int .i64 2) ∧ w.cell? ⟨b, 12, none⟩ = some (.int .i64 3)
theorem demoAt.fr0 {w w' : World} {b g : Nat} (h : demoAt w b g) (k : Fr [] w w') : demoAt w' b g := PD13.fr0 (d := demoD g) h k
set_option maxHeartbeats 8000000 in
set_option maxRecDepth 100000 in
theorem awake27_any (w : World) : Calls Try.prog 15 #[] w fun e w' => e = .returned (.bool true) ∧ Fr [] w w' := by
  obtain ⟨wa, hwa⟩ : ∃ wa, wa = ((w.alloc (.cells #[.int .i64 0, .int .i64 2] 3)).alloc (.cells #[.int .i64 2] 3)).alloc (.cells (demoD w.heap.size).cells 46) := ⟨_, rfl⟩
  have hwa0 := hwa
  have HRL : Hid (∀ w', Fr [] wa w' → RailsAt w' (demoD w.heap.size) demoRl) := hide (fun w' h => demo_rails (Fr.call (by rw [hwa]; exact (Fr.refl _ _).alloc _) h))
  have HF : Hid (Fr [] w wa) := hide (by rw [hwa]; exact (((Fr.refl _ _).alloc _).alloc _).alloc _)
  have HB : Hid (demoAt wa (w.heap.size + 2) w.heap.size) := hide (by
    have h := PD13.new ((w.alloc (.cells #[.int .i64 0, .int .i64 2] 3)).alloc (.cells #[.int .i64 2] 3)) 46 (demoD w.heap.size)
    rw [← hwa] at h
    rw [show ((w.alloc (.cells #[.int .i64 0, .int .i64 2] 3)).alloc (.cells #[.int .i64 2] 3)).heap.size = w.heap.size + 2 by simp] at h
    exact h)
  have HW := hide hwa
  clear hwa
  go_enter Try.func15, Try.ntmps15
  go_upto_region 2 with (fail)
  have hx := HW.out
  simp only [PD.cells, demoD] at hx
  rw [show (((w.alloc (.cells #[.int .i64 0, .int .i64 2] 3)).alloc (.cells #[.int .i64 2] 3)).alloc (.cells #[.int .i64 (-1), .slice (some ⟨w.heap.size, 0, none⟩) 2 2, .slice none 0 0, .slice none 0 0, .slice (some ⟨w.heap.size + 1, 0, none⟩) 1 1, .int .i64 0, .int .i64 3, .int .i64 3, .int .i64 4, .int .i64 4, .int .i64 4, .int .i64 2, .int .i64 3] 46)) = wa from HW.out.symm]
  clear HW hx hwa0
  generalize w.heap.size = g at HRL HB ⊢
  obtain ⟨c0, c1, c2, c3, c4, c5, c6, c7, c8, c9, c10, c11, c12⟩ := HB.out
  go_wp2_with fail
  refine (change27_any (demoD g) demoRl 4 0 wa (HRL.out wa (Fr.refl _ _)) demo_len).mono ?_
  rintro e w1 ⟨v1, v2, rfl, ho1, ho2, hf1⟩
  rw [demo_ch1] at ho1 ho2 ⊢
  obtain ⟨A1, p1, rfl, -, r1, -⟩ := own_slice ho1
  obtain ⟨A2, p2, rfl, -, -, -⟩ := own_slice ho2
  have HR1 := hide r1
  clear ho1 ho2 r1 c0 c1 c2 c3 c4 c5 c6 c7 c8 c9 c10 c11 c12
  obtain ⟨c0, c1, c2, c3, c4, c5, c6, c7, c8, c9, c10, c11, c12⟩ := HB.out.fr0 hf1
  go_wp2_with fail
  refine (change27_any (demoD g) demoRl 0 3 w1 (HRL.out w1 hf1) demo_len).mono ?_
  rintro e w2 ⟨v3, v4, rfl, ho1, ho2, hf2⟩
  rw [demo_ch2] at ho1 ho2 ⊢
  obtain ⟨A3, p3, rfl, -, -, -⟩ := own_slice ho1
  obtain ⟨A4, p4, rfl, -, r4, -⟩ := own_slice ho2
  have HR4 := hide r4
  have hf02 := hf1.call hf2
  clear ho1 ho2 r4 c0 c1 c2 c3 c4 c5 c6 c7 c8 c9 c10 c11 c12
  obtain ⟨c0, c1, c2, c3, c4, c5, c6, c7, c8, c9, c10, c11, c12⟩ := HB.out.fr0 hf02
  go_wp2_with fail
  refine (target27_any (demoD g) 3 true w2).mono ?_
  rintro e w3 ⟨rfl, hf3⟩
  rw [demo_t1]
  have hf03 := hf02.call hf3
  clear c0 c1 c2 c3 c4 c5 c6 c7 c8 c9 c10 c11 c12
  obtain ⟨c0, c1, c2, c3, c4, c5, c6, c7, c8, c9, c10, c11, c12⟩ := HB.out.fr0 hf03
  go_wp2_with fail
  refine (target27_any (demoD g) 4 true w3).mono ?_
  rintro e w4 ⟨rfl, hf4⟩
  rw [demo_t2]
  have hf04 := hf03.call hf4
  clear c0 c1 c2 c3 c4 c5 c6 c7 c8 c9 c10 c11 c12
  have HR1b := hide (HR1.out.fr0 ((hf2.call hf3).call hf4))
  have HR4b := hide (HR4.out.fr0 (hf3.call hf4))
  go_wp2_with fail
  refine (equalInts_any A1 (some ⟨w4.heap.size, 0, none⟩) p1 2 [0, 2] [0, 2] _ (HR1b.out.fr0 ((Fr.refl [] _).alloc _)) (row_lit w4 _ _ rfl) (by simp) (by simp)).mono ?_
  rintro e w5 ⟨rfl, hf5⟩
  rw [decide_eq_true rfl]
  have hf45 : Fr [] w4 w5 := ((Fr.refl [] _).alloc _).call hf5
  have hf05 := hf04.call hf45
  go_wp2_with fail
  refine (equalInts_any A4 (some ⟨w5.heap.size, 0, none⟩) p4 1 [0] [0] _ ((HR4b.out.fr0 hf45).fr0 ((Fr.refl [] _).alloc _)) (row_lit w5 _ _ rfl) (by simp) (by simp)).mono ?_
  rintro e w6 ⟨rfl, hf6⟩
  rw [decide_eq_true rfl]
  have hf06 := (hf05.alloc _).call hf6
  obtain ⟨c0, c1, c2, c3, c4, c5, c6, c7, c8, c9, c10, c11, c12⟩ := HB.out.fr0 hf06
  go_wp2_with fail
  have hr7 := row_lit w6 (demoD g).cells 46 rfl
  refine (check27_any (some ⟨w6.heap.size, 0, none⟩) 1 [⟨demoD g, demoRl⟩] 3 _ ⟨hr7, fun x hx => ?_⟩ (fun x hx k => ?_) (by simp [maxLen])).mono ?_
  · rw [List.mem_singleton.1 hx]
    exact HRL.out _ (hf06.alloc _)
  · rw [List.mem_singleton.1 hx]
    exact demo_len k
  rintro e w7 ⟨rfl, hf7⟩
  rw [demo_c1]
  have hf07 := (hf06.alloc _).call hf7
  clear c0 c1 c2 c3 c4 c5 c6 c7 c8 c9 c10 c11 c12 hr7
  obtain ⟨c0, c1, c2, c3, c4, c5, c6, c7, c8, c9, c10, c11, c12⟩ := HB.out.fr0 hf07
  go_wp2_with fail
  have hr8 := row_lit w7 (demoD g).cells 46 rfl
  refine (check27_any (some ⟨w7.heap.size, 0, none⟩) 1 [⟨demoD g, demoRl⟩] 2 _ ⟨hr8, fun x hx => ?_⟩ (fun x hx k => ?_) (by simp [maxLen])).mono ?_
  · rw [List.mem_singleton.1 hx]
    exact HRL.out _ (hf07.alloc _)
  · rw [List.mem_singleton.1 hx]
    exact demo_len k
  rintro e w8 ⟨rfl, hf8⟩
  rw [demo_c2]
  have hf08 := (hf07.alloc _).call hf8
  clear c0 c1 c2 c3 c4 c5 c6 c7 c8 c9 c10 c11 c12 hr8
  go_wp2
  go_ret
  exact ⟨rfl, HF.out.call hf08⟩
end Go.Proofs.Ytdocdgghphhdpaa

