/- Walks: law31's awake. -/
import Derived.Test.YtinengemeppefaaSchW7Mg
import Derived.Test.YtinengemeppefaaSchW8Mg
namespace Go.Proofs.Ytinengemeppefaa
open Go.RowKit

theorem own_slice' {w : World} {base : Nat} {e : TypeId} {size : Nat} {v : Value} {n : Nat} {xs : List Value} (h : w.ownsRow base e size v n xs) :
    ∃ A cp, v = .slice A n cp ∧ n ≤ cp ∧ Row w A xs := by
  rcases h.2 with ⟨h0, h1⟩ | ⟨g, cap, cur, hv, hb, hh, hn, _⟩
  · subst h0
    subst h1
    exact ⟨none, 0, rfl, Nat.le_refl _, Row.of_own h⟩
  · subst hv
    exact ⟨_, cap, rfl, hn, Row.of_own h⟩
def demoSl : List Slt := [⟨0, 0, 0, 3⟩, ⟨1, 1, 0, 2⟩, ⟨2, 0, 3, 7⟩]
theorem demo_sched : schedM 3 [(2, 0)] [3, 2, 4] 2 = (demoSl, 0) := by decide +kernel
theorem demo_cp : cpathM 3 [(2, 0)] [3, 2, 4] = (7, 0) := by decide +kernel
theorem demo_ver : verM 3 [(2, 0)] [3, 2, 4] 1 (demoSl.map toR) = 1 := by decide +kernel
theorem demo_mk : mkR (demoSl.map toR) = 7 := by decide +kernel

set_option maxHeartbeats 2000000 in
set_option maxRecDepth 100000 in
theorem awake31_any (w : World) : Calls Try.prog 12 #[] w fun e w' => e = .returned (.bool true) ∧ Fr [] w w' := by
  have hl0 := row_lit w (pcs [(2, 0)]).toArray 43 rfl
  have hd := row_lit (w.alloc (.cells (pcs [(2, 0)]).toArray 43)) #[.int .u64 3, .int .u64 2, .int .u64 4] 33 rfl
  have hl : Row ((w.alloc (.cells (pcs [(2, 0)]).toArray 43)).alloc (.cells #[.int .u64 3, .int .u64 2, .int .u64 4] 33)) _ _ := hl0.fr0 ((Fr.refl [] _).alloc _)
  have hf0 : Fr [] w ((w.alloc (.cells (pcs [(2, 0)]).toArray 43)).alloc (.cells #[.int .u64 3, .int .u64 2, .int .u64 4] 33)) := ((Fr.refl [] _).alloc _).alloc _
  have HL := hide hl
  have HD := hide hd
  clear hl hl0 hd
  go_enter Try.func12, Try.ntmps12
  go_wp2_with fail
  refine (schedule31_any 3 2 (some ⟨w.heap.size, 0, none⟩) (some ⟨w.heap.size + 1, 0, none⟩) 1 3 [(2, 0)] [3, 2, 4] _ HL.out (by have h := HD.out; simp at h; exact h) (by simp)).mono ?_
  rintro e w1 ⟨v1, rfl, hown1, hf1⟩
  rw [demo_sched] at hown1 ⊢
  obtain ⟨A1, c1, rfl, hcp, hrow1⟩ := own_slice' hown1
  have hfw1 := hf0.call hf1
  have HL1 := hide (HL.out.fr0 hf1)
  have HD1 := hide (HD.out.fr0 hf1)
  have HS1 := hide (show Row w1 A1 (rcells (demoSl.map toR)) by rw [rcells_toR]; exact hrow1)
  clear hown1 hrow1 hf1 hf0 HL HD
  go_wp2_with fail
  refine (critical31_any 3 (some ⟨w.heap.size, 0, none⟩) (some ⟨w.heap.size + 1, 0, none⟩) 1 3 [(2, 0)] [3, 2, 4] _ HL1.out (by have h := HD1.out; simp at h; exact h) (by simp)).mono ?_
  rintro e w2 ⟨rfl, hf2⟩
  rw [demo_cp]
  have hfw2 := hfw1.call hf2
  have HL2 := hide (HL1.out.fr0 hf2)
  have HD2 := hide (HD1.out.fr0 hf2)
  have HS2 := hide (HS1.out.fr0 hf2)
  clear hf2 hfw1 HL1 HD1 HS1
  go_wp2_with fail
  refine (makespan31_any A1 c1 (demoSl.map toR) w2 HS2.out (by simp [demoSl])).mono ?_
  rintro e w3 ⟨rfl, hf3⟩
  rw [demo_mk]
  have hfw3 := hfw2.call hf3
  have HL3 := hide (HL2.out.fr0 hf3)
  have HD3 := hide (HD2.out.fr0 hf3)
  have HS3 := hide (HS2.out.fr0 hf3)
  clear hf3 hfw2 HL2 HD2 HS2
  go_wp2_with fail
  refine (equalSlots_any A1 (some ⟨w3.heap.size, 0, none⟩) c1 3 (demoSl.map toR) (demoSl.map toR) _ (HS3.out.fr0 ((Fr.refl [] _).alloc _)) (row_lit w3 _ _ rfl) (by simp [demoSl])).mono ?_
  rintro e w4 ⟨rfl, hf4⟩
  rw [decide_eq_true rfl]
  have hf34 : Fr [] w3 w4 := ((Fr.refl [] _).alloc _).call hf4
  have hfw4 := hfw3.call hf34
  have HL4 := hide (HL3.out.fr0 hf34)
  have HD4 := hide (HD3.out.fr0 hf34)
  have HS4 := hide (HS3.out.fr0 hf34)
  clear hf4 hf34 hfw3 HL3 HD3 HS3
  go_wp2_with fail
  refine (verify31_any 3 1 (some ⟨w.heap.size, 0, none⟩) (some ⟨w.heap.size + 1, 0, none⟩) A1 1 3 c1 [(2, 0)] [3, 2, 4] (demoSl.map toR) _ HL4.out (by have h := HD4.out; simp at h; exact h) HS4.out (by simp) (by simp [demoSl]) (by simpa [demoSl] using hcp) (by simp [demoSl, toR, RFits])).mono ?_
  rintro e w5 ⟨rfl, hf5⟩
  rw [demo_ver]
  go_wp2
  go_ret
  exact ⟨rfl, hfw4.call hf5⟩
end Go.Proofs.Ytinengemeppefaa

