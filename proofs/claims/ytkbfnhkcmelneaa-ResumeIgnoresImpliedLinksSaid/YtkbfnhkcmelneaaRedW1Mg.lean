/- Walks: cmp.Or, the comparison of two links. -/
import Derived.Test.YtkbfnhkcmelneaaSl
import Derived.Test.YtkbfnhkcmelneaaMgResumeImplied0
import Derived.Deep.RegionHeld3
namespace Go.Proofs.Ytkbfnhkcmelneaa
open Go.RowKit Go.Shelf Go.Lib Go.Sort

def orM (a b : Int) : Int := if a ≠ 0 then a else b
def OrRel (w : World) (a : Int) (m : Nat) (i : Value) (wr : World) : Prop := ∃ k : Nat, k ≤ 2 ∧ i = .int .i64 (k : Int) ∧ (0 < k → a = 0) ∧ w = wr ∧ m = 2 - k
set_option maxHeartbeats 1000000 in
theorem or_any (a b : Int) (g : Nat) (w : World) (h0 : w.cell? ⟨g, 0, none⟩ = some (.int .i64 a)) (h1 : w.cell? ⟨g, 1, none⟩ = some (.int .i64 b)) :
    Calls Try.prog 19 #[.slice (some ⟨g, 0, none⟩) 2 2] w fun e w' => e = .returned (.int .i64 (orM a b)) ∧ w = w' := by
  by_cases ha : a = 0
  · subst ha
    rw [show orM 0 b = b from rfl]
    by_cases hb : b = 0
    · subst hb
      go_enter Try.func19, Try.ntmps19
      go_wp2
      refine wp_loop_rounds 3 ?_
      rw [rounds_succ]
      go_wp2
      rw [rounds_succ]
      go_wp2
      rw [rounds_succ]
      go_wp2
      go_ret
      exact ⟨rfl, rfl⟩
    · have e1 : (b != 0) = true := by simp [hb]
      clear hb
      go_enter Try.func19, Try.ntmps19
      go_wp2
      refine wp_loop_rounds 3 ?_
      rw [rounds_succ]
      go_wp2
      rw [rounds_succ]
      go_wp2
      go_ret
      exact ⟨rfl, rfl⟩
  · have e1 : (a != 0) = true := by simp [ha]
    rw [show orM a b = a by unfold orM; rw [if_pos ha]]
    clear ha
    go_enter Try.func19, Try.ntmps19
    go_wp2
    refine wp_loop_rounds 3 ?_
    rw [rounds_succ]
    go_wp2
    go_ret
    exact ⟨rfl, rfl⟩
def encL (x : Int × Int) : List Value := [.int .i64 x.1, .int .i64 x.2]
def cmpI (a b : Int) : Int := Lib.compareInt a b
def cmpL (x y : Int × Int) : Int := orM (cmpI x.1 y.1) (cmpI x.2 y.2)
theorem compare_any (a b : Int) (w : World) : Calls Try.prog 20 #[.int .i64 a, .int .i64 b] w fun e w' => e = .returned (.int .i64 (cmpI a b)) ∧ w' = w := AnyG.cmp_Compare_int cmpInt a b w
set_option maxHeartbeats 1000000 in
theorem cmpLink_any (x y : Int × Int) (W : World) : Calls Try.prog 18 #[.agg #[.int .i64 x.1, .int .i64 x.2], .agg #[.int .i64 y.1, .int .i64 y.2]] W fun e w' => e = .returned (.int .i64 (cmpL x y)) ∧ ∃ q os', w' = grow (W.drewN q) os' := by
  have HE : Hid (cmpL x y = orM (cmpI x.1 y.1) (cmpI x.2 y.2)) := hide rfl
  have hW : ((W.alloc (.cells #[.int .i64 x.1, .int .i64 x.2] 41)).alloc (.cells #[.int .i64 y.1, .int .i64 y.2] 41)) = grow W #[.cells #[.int .i64 x.1, .int .i64 x.2] 41, .cells #[.int .i64 y.1, .int .i64 y.2] 41] := by rw [alloc_eq_grow, alloc_eq_grow, grow_grow]; rfl
  have hb1 := (Blk.new W 41 #[.int .i64 x.1, .int .i64 x.2]).alloc (.cells #[.int .i64 y.1, .int .i64 y.2] 41)
  have hb2 := Blk.new (W.alloc (.cells #[.int .i64 x.1, .int .i64 x.2] 41)) 41 #[.int .i64 y.1, .int .i64 y.2]
  rw [show (W.alloc (.cells #[.int .i64 x.1, .int .i64 x.2] 41)).heap.size = W.heap.size + 1 by simp] at hb2
  have HW := hide hW
  clear hW
  go_enter Try.func18, Try.ntmps18
  go_upto_region 1 with (fail)
  generalize ((W.alloc (.cells #[.int .i64 x.1, .int .i64 x.2] 41)).alloc (.cells #[.int .i64 y.1, .int .i64 y.2] 41)) = w2 at hb1 hb2 HW ⊢
  have c0 : w2.cell? ⟨W.heap.size, 0, none⟩ = some (.int .i64 x.1) := hb1.cell 0
  have c1 : w2.cell? ⟨W.heap.size, 1, none⟩ = some (.int .i64 x.2) := hb1.cell 1
  have d0 : w2.cell? ⟨W.heap.size + 1, 0, none⟩ = some (.int .i64 y.1) := hb2.cell 0
  have d1 : w2.cell? ⟨W.heap.size + 1, 1, none⟩ = some (.int .i64 y.2) := hb2.cell 1
  have hq : Blk ((w2.alloc (.cells #[.int .i64 (cmpI x.1 y.1), .int .i64 (cmpI x.2 y.2)] 3)).drew) w2.heap.size 3 #[.int .i64 (cmpI x.1 y.1), .int .i64 (cmpI x.2 y.2)] := (Blk.new w2 _ _).drew
  have HQ := hide hq
  have hfa : Fr [] w2 ((w2.alloc (.cells #[.int .i64 (cmpI x.1 y.1), .int .i64 (cmpI x.2 y.2)] 3)).drew) := ((Fr.refl _ _).alloc _).drew
  have HF := hide hfa
  clear hq hfa
  go_region_held3 (fun w' => w'.cell? ⟨W.heap.size, 0, none⟩ = some (.int .i64 x.1) ∧ w'.cell? ⟨W.heap.size, 1, none⟩ = some (.int .i64 x.2) ∧ w'.cell? ⟨W.heap.size + 1, 0, none⟩ = some (.int .i64 y.1) ∧ w'.cell? ⟨W.heap.size + 1, 1, none⟩ = some (.int .i64 y.2)) (first | exact ⟨c0, c1, d0, d1⟩ | exact ⟨HF.out.cell c0 (by simp), HF.out.cell c1 (by simp), HF.out.cell d0 (by simp), HF.out.cell d1 (by simp)⟩ | go_keep) (first | (go_at_call 20; refine (compare_any _ _ _).mono ?_; rintro e w' ⟨rfl, rfl⟩) | (go_at_call 19; refine (or_any (cmpI x.1 y.1) (cmpI x.2 y.2) _ _ (HQ.out.cell 0) (HQ.out.cell 1)).mono ?_; rintro e w' ⟨rfl, rfl⟩))
  go_wp2
  go_ret
  refine ⟨by rw [HE.out]; rfl, 1, #[.cells #[.int .i64 x.1, .int .i64 x.2] 41, .cells #[.int .i64 y.1, .int .i64 y.2] 41, .cells #[.int .i64 (cmpI x.1 y.1), .int .i64 (cmpI x.2 y.2)] 3], ?_⟩
  rw [HW.out]
  rw [show grow (W.drewN 1) #[.cells #[.int .i64 x.1, .int .i64 x.2] 41, .cells #[.int .i64 y.1, .int .i64 y.2] 41, .cells #[.int .i64 (cmpI x.1 y.1), .int .i64 (cmpI x.2 y.2)] 3] = (grow W #[.cells #[.int .i64 x.1, .int .i64 x.2] 41, .cells #[.int .i64 y.1, .int .i64 y.2] 41, .cells #[.int .i64 (cmpI x.1 y.1), .int .i64 (cmpI x.2 y.2)] 3]).drew from rfl]
  rw [alloc_eq_grow, grow_grow]
  rfl
end Go.Proofs.Ytkbfnhkcmelneaa

