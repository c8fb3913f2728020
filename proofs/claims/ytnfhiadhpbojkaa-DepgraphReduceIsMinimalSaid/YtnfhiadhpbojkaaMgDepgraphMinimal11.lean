/- The sort and the comparison of the library, laid at this seat (written by the kit: lay-plain). -/
import Derived.Shelf.SlSortCmp.WholeK
import Derived.Shelf.SlSortCmp.NoneTotal
import Derived.Shelf.SlicesG.Cmp
import Derived.Test.YtnfhiadhpbojkaaProg
import Derived.Test.YtnfhiadhpbojkaaMgDepgraphMinimal0
import Derived.Deep.RegionHeld3
namespace Go.Proofs
open Go.Shelf
def Ytnfhiadhpbojkaa.sortLink_ren : Go.Shelf.Ren := ⟨fun | 6 => 49 | 15 => 56 | 14 => 55 | 28 => 66 | 29 => 67 | 20 => 58 | 21 => 59 | 22 => 60 | 23 => 61 | 24 => 62 | 25 => 63 | 26 => 64 | 27 => 65 | 46 => 68 | 47 => 69 | 48 => 70 | 49 => 71 | 50 => 72 | 57 => 73 | n => n, fun | 22 => 22 | 24 => 34 | 25 => 63 | 3 => 3 | 39 => 58 | 0 => 0 | 53 => 77 | 55 => 79 | 4 => 4 | 46 => 70 | 45 => 69 | 50 => 74 | 5 => 5 | 9 => 9 | 66 => 80 | 70 => 84 | 76 => 86 | 77 => 87 | n => n, fun | n => n⟩
theorem Ytnfhiadhpbojkaa.sortLink : Go.Proofs.SlLaysF0.n6 Try.prog Ytnfhiadhpbojkaa.sortLink_ren := {
  mixed := by kernel_rfl
  f6 := ⟨Try.f49.name, by decide, Try.func49.trans (congrArg some (by kernel_rfl))⟩
  f14 := ⟨Try.f55.name, by decide, Try.func55.trans (congrArg some (by kernel_rfl))⟩
  f15 := Try.func56.trans (congrArg some (by kernel_rfl))
  f20 := ⟨Try.f58.name, by decide, Try.func58.trans (congrArg some (by kernel_rfl))⟩
  f21 := ⟨Try.f59.name, by decide, Try.func59.trans (congrArg some (by kernel_rfl))⟩
  f22 := ⟨Try.f60.name, by decide, Try.func60.trans (congrArg some (by kernel_rfl))⟩
  f23 := ⟨Try.f61.name, by decide, Try.func61.trans (congrArg some (by kernel_rfl))⟩
  f24 := ⟨Try.f62.name, by decide, Try.func62.trans (congrArg some (by kernel_rfl))⟩
  f25 := ⟨Try.f63.name, by decide, Try.func63.trans (congrArg some (by kernel_rfl))⟩
  f26 := ⟨Try.f64.name, by decide, Try.func64.trans (congrArg some (by kernel_rfl))⟩
  f27 := ⟨Try.f65.name, by decide, Try.func65.trans (congrArg some (by kernel_rfl))⟩
  f28 := Try.func66.trans (congrArg some (by kernel_rfl))
  f29 := Try.func67.trans (congrArg some (by kernel_rfl))
  f46 := ⟨Try.f68.name, by decide, Try.func68.trans (congrArg some (by kernel_rfl))⟩
  f47 := Try.func69.trans (congrArg some (by kernel_rfl))
  f48 := Try.func70.trans (congrArg some (by kernel_rfl))
  f49 := ⟨Try.f71.name, by decide, Try.func71.trans (congrArg some (by kernel_rfl))⟩
  f50 := ⟨Try.f72.name, by decide, Try.func72.trans (congrArg some (by kernel_rfl))⟩
  f57 := ⟨Try.f73.name, by decide, Try.func73.trans (congrArg some (by kernel_rfl))⟩
  t0 := Try.underlying0
  a0 := Try.isAgg0
  z0 := Try.sizeOf0
  v0 := Try.zeroValue0
  t3 := Try.underlying3
  a3 := Try.isAgg3
  z3 := Try.sizeOf3
  v3 := Try.zeroValue3
  t4 := Try.underlying4
  a4 := Try.isAgg4
  z4 := Try.sizeOf4
  v4 := Try.zeroValue4
  t5 := Try.underlying5
  a5 := Try.isAgg5
  z5 := Try.sizeOf5
  v5 := Try.zeroValue5
  t9 := Try.underlying9
  a9 := Try.isAgg9
  z9 := Try.sizeOf9
  v9 := Try.zeroValue9
  t22 := Try.underlying22
  a22 := Try.isAgg22
  z22 := Try.sizeOf22
  v22 := Try.zeroValue22
  t25 := Try.underlying63
  a25 := Try.isAgg63
  z25 := Try.sizeOf63
  v25 := Try.zeroValue63
  t39 := Try.underlying58
  a39 := Try.isAgg58
  z39 := Try.sizeOf58
  v39 := Try.zeroValue58
  t45 := Try.underlying69
  a45 := Try.isAgg69
  z45 := Try.sizeOf69
  v45 := Try.zeroValue69
  t46 := Try.underlying70
  a46 := Try.isAgg70
  z46 := Try.sizeOf70
  v46 := Try.zeroValue70
  t50 := Try.underlying74
  a50 := Try.isAgg74
  z50 := Try.sizeOf74
  v50 := Try.zeroValue74
  t53 := Try.underlying77
  a53 := Try.isAgg77
  z53 := Try.sizeOf77
  v53 := Try.zeroValue77
  t55 := Try.underlying79
  a55 := Try.isAgg79
  z55 := Try.sizeOf79
  v55 := Try.zeroValue79
  t66 := Try.underlying80
  a66 := Try.isAgg80
  z66 := Try.sizeOf80
  v66 := Try.zeroValue80
  t70 := Try.underlying84
  a70 := Try.isAgg84
  z70 := Try.sizeOf84
  v70 := Try.zeroValue84
  t76 := Try.underlying86
  a76 := Try.isAgg86
  z76 := Try.sizeOf86
  v76 := Try.zeroValue86
  t77 := Try.underlying87
  a77 := Try.isAgg87
  z77 := Try.sizeOf87
  v77 := Try.zeroValue87 }
def Ytnfhiadhpbojkaa.cmpInt_ren : Go.Shelf.Ren := ⟨fun | 5 => 52 | 7 => 57 | n => n, fun | 22 => 3 | 3 => 3 | 4 => 4 | n => n, fun | n => n⟩
theorem Ytnfhiadhpbojkaa.cmpInt : Go.Proofs.SlLaysC2.n5 Try.prog Ytnfhiadhpbojkaa.cmpInt_ren := {
  mixed := by kernel_rfl
  f5 := ⟨Try.f52.name, by decide, Try.func52.trans (congrArg some (by kernel_rfl))⟩
  f7 := ⟨Try.f57.name, by decide, Try.func57.trans (congrArg some (by kernel_rfl))⟩
  t3 := Try.underlying3
  a3 := Try.isAgg3
  z3 := Try.sizeOf3
  v3 := Try.zeroValue3
  t4 := Try.underlying4
  a4 := Try.isAgg4
  z4 := Try.sizeOf4
  v4 := Try.zeroValue4
  t22 := Try.underlying3
  a22 := Try.isAgg3
  z22 := Try.sizeOf3
  v22 := Try.zeroValue3 }
end Go.Proofs

/- Walks: cmp.Or, the comparison of two links. -/
namespace Go.Proofs.Ytnfhiadhpbojkaa
open Go.RowKit Go.Shelf Go.Lib Go.Sort

def orM (a b : Int) : Int := if a ≠ 0 then a else b
def OrRel (w : World) (a : Int) (m : Nat) (i : Value) (wr : World) : Prop := ∃ k : Nat, k ≤ 2 ∧ i = .int .i64 (k : Int) ∧ (0 < k → a = 0) ∧ w = wr ∧ m = 2 - k
set_option maxHeartbeats 1000000 in
theorem or_any (a b : Int) (g : Nat) (w : World) (h0 : w.cell? ⟨g, 0, none⟩ = some (.int .i64 a)) (h1 : w.cell? ⟨g, 1, none⟩ = some (.int .i64 b)) :
    Calls Try.prog 51 #[.slice (some ⟨g, 0, none⟩) 2 2] w fun e w' => e = .returned (.int .i64 (orM a b)) ∧ w = w' := by
  by_cases ha : a = 0
  · subst ha
    rw [show orM 0 b = b from rfl]
    by_cases hb : b = 0
    · subst hb
      go_enter Try.func51, Try.ntmps51
      go_wp2
      refine wp_loop_rounds 3 ?_
      rw [rounds_succ]
      go_wp2
      rw [rounds_succ]
      go_wp2
      rw [rounds_succ]
      go_wp2
      go_ret
      exact ⟨rfl, rfl⟩
    · have e1 : (b != 0) = true := by simp [hb]
      clear hb
      go_enter Try.func51, Try.ntmps51
      go_wp2
      refine wp_loop_rounds 3 ?_
      rw [rounds_succ]
      go_wp2
      rw [rounds_succ]
      go_wp2
      go_ret
      exact ⟨rfl, rfl⟩
  · have e1 : (a != 0) = true := by simp [ha]
    rw [show orM a b = a by unfold orM; rw [if_pos ha]]
    clear ha
    go_enter Try.func51, Try.ntmps51
    go_wp2
    refine wp_loop_rounds 3 ?_
    rw [rounds_succ]
    go_wp2
    go_ret
    exact ⟨rfl, rfl⟩
def encL (x : Int × Int) : List Value := [.int .i64 x.1, .int .i64 x.2]
def cmpI (a b : Int) : Int := Lib.compareInt a b
def cmpL (x y : Int × Int) : Int := orM (cmpI x.1 y.1) (cmpI x.2 y.2)
theorem compare_any (a b : Int) (w : World) : Calls Try.prog 52 #[.int .i64 a, .int .i64 b] w fun e w' => e = .returned (.int .i64 (cmpI a b)) ∧ w' = w := AnyG.cmp_Compare_int cmpInt a b w
set_option maxHeartbeats 1000000 in
theorem cmpLink_any (x y : Int × Int) (W : World) : Calls Try.prog 50 #[.agg #[.int .i64 x.1, .int .i64 x.2], .agg #[.int .i64 y.1, .int .i64 y.2]] W fun e w' => e = .returned (.int .i64 (cmpL x y)) ∧ ∃ q os', w' = grow (W.drewN q) os' := by
  have HE : Hid (cmpL x y = orM (cmpI x.1 y.1) (cmpI x.2 y.2)) := hide rfl
  have hW : ((W.alloc (.cells #[.int .i64 x.1, .int .i64 x.2] 34)).alloc (.cells #[.int .i64 y.1, .int .i64 y.2] 34)) = grow W #[.cells #[.int .i64 x.1, .int .i64 x.2] 34, .cells #[.int .i64 y.1, .int .i64 y.2] 34] := by rw [alloc_eq_grow, alloc_eq_grow, grow_grow]; rfl
  have hb1 := (Blk.new W 34 #[.int .i64 x.1, .int .i64 x.2]).alloc (.cells #[.int .i64 y.1, .int .i64 y.2] 34)
  have hb2 := Blk.new (W.alloc (.cells #[.int .i64 x.1, .int .i64 x.2] 34)) 34 #[.int .i64 y.1, .int .i64 y.2]
  rw [show (W.alloc (.cells #[.int .i64 x.1, .int .i64 x.2] 34)).heap.size = W.heap.size + 1 by simp] at hb2
  have HW := hide hW
  clear hW
  go_enter Try.func50, Try.ntmps50
  go_upto_region 1 with (fail)
  generalize ((W.alloc (.cells #[.int .i64 x.1, .int .i64 x.2] 34)).alloc (.cells #[.int .i64 y.1, .int .i64 y.2] 34)) = w2 at hb1 hb2 HW ⊢
  have c0 : w2.cell? ⟨W.heap.size, 0, none⟩ = some (.int .i64 x.1) := hb1.cell 0
  have c1 : w2.cell? ⟨W.heap.size, 1, none⟩ = some (.int .i64 x.2) := hb1.cell 1
  have d0 : w2.cell? ⟨W.heap.size + 1, 0, none⟩ = some (.int .i64 y.1) := hb2.cell 0
  have d1 : w2.cell? ⟨W.heap.size + 1, 1, none⟩ = some (.int .i64 y.2) := hb2.cell 1
  have hq : Blk ((w2.alloc (.cells #[.int .i64 (cmpI x.1 y.1), .int .i64 (cmpI x.2 y.2)] 3)).drew) w2.heap.size 3 #[.int .i64 (cmpI x.1 y.1), .int .i64 (cmpI x.2 y.2)] := (Blk.new w2 _ _).drew
  have HQ := hide hq
  have hfa : Fr [] w2 ((w2.alloc (.cells #[.int .i64 (cmpI x.1 y.1), .int .i64 (cmpI x.2 y.2)] 3)).drew) := ((Fr.refl _ _).alloc _).drew
  have HF := hide hfa
  clear hq hfa
  go_region_held3 (fun w' => w'.cell? ⟨W.heap.size, 0, none⟩ = some (.int .i64 x.1) ∧ w'.cell? ⟨W.heap.size, 1, none⟩ = some (.int .i64 x.2) ∧ w'.cell? ⟨W.heap.size + 1, 0, none⟩ = some (.int .i64 y.1) ∧ w'.cell? ⟨W.heap.size + 1, 1, none⟩ = some (.int .i64 y.2)) (first | exact ⟨c0, c1, d0, d1⟩ | exact ⟨HF.out.cell c0 (by simp), HF.out.cell c1 (by simp), HF.out.cell d0 (by simp), HF.out.cell d1 (by simp)⟩ | go_keep) (first | (go_at_call 52; refine (compare_any _ _ _).mono ?_; rintro e w' ⟨rfl, rfl⟩) | (go_at_call 51; refine (or_any (cmpI x.1 y.1) (cmpI x.2 y.2) _ _ (HQ.out.cell 0) (HQ.out.cell 1)).mono ?_; rintro e w' ⟨rfl, rfl⟩))
  go_wp2
  go_ret
  refine ⟨by rw [HE.out]; rfl, 1, #[.cells #[.int .i64 x.1, .int .i64 x.2] 34, .cells #[.int .i64 y.1, .int .i64 y.2] 34, .cells #[.int .i64 (cmpI x.1 y.1), .int .i64 (cmpI x.2 y.2)] 3], ?_⟩
  rw [HW.out]
  rw [show grow (W.drewN 1) #[.cells #[.int .i64 x.1, .int .i64 x.2] 34, .cells #[.int .i64 y.1, .int .i64 y.2] 34, .cells #[.int .i64 (cmpI x.1 y.1), .int .i64 (cmpI x.2 y.2)] 3] = (grow W #[.cells #[.int .i64 x.1, .int .i64 x.2] 34, .cells #[.int .i64 y.1, .int .i64 y.2] 34, .cells #[.int .i64 (cmpI x.1 y.1), .int .i64 (cmpI x.2 y.2)] 3]).drew from rfl]
  rw [alloc_eq_grow, grow_grow]
  rfl
end Go.Proofs.Ytnfhiadhpbojkaa

