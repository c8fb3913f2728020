/- Walks: chapter 25's Some. -/
import Derived.Test.YtdocdgghphhdpaaMgDeviceTree14
import Derived.Test.YtdocdgghphhdpaaDevW12Mg
import Derived.Test.YtdocdgghphhdpaaMgDeviceTree12
namespace Go.Proofs.Ytdocdgghphhdpaa
open Go.RowKit

def so25 (x : RailD) (i : Nat) : RailD := ⟨(umod x.sup (i + 1) : Int) - 1, x.up % 20, x.dn % 20⟩
def so25F (R0 : Nat → RailD) : Nat → RailD := fun i => so25 (R0 i) i
def flip25 (m : Nat) (x : RailD) : RailD := if 0 ≤ x.sup then { x with sup := (m : Int) - 1 - x.sup } else x
/-- What the laws of chapter 25 to 31 use of Some's rails. -/
structure Good25 (m : Nat) (R : Nat → RailD) (rk : Nat → Nat) : Prop where
  n8 : m ≤ 8
  rank : RankR m R rk
  rk8 : ∀ k, rk k ≤ 8
  ok : ∀ k, k < m → railOkD m (R k)
  lim : ∀ k, k < m → (R k).up < 20 ∧ (R k).dn < 20
theorem rlcs_succ (R : Nat → RailD) (k : Nat) : rlcs R (k + 1) = rlcs R k ++ [.int .i64 (R k).sup, rv (R k).up, rv (R k).dn] := by
  simp [rlcs, List.range_succ, rlc]
theorem rlcs_congr {R R' : Nat → RailD} {k : Nat} (h : ∀ i, i < k → R i = R' i) : rlcs R k = rlcs R' k := by
  induction k with
  | zero => rfl
  | succ k ih => rw [rlcs_succ, rlcs_succ, ih (fun i hi => h i (by omega)), h k (by omega)]
theorem so25_bound (R0 : Nat → RailD) (i : Nat) : -1 ≤ (so25F R0 i).sup ∧ (so25F R0 i).sup < (i : Int) ∧ (so25F R0 i).up < 20 ∧ (so25F R0 i).dn < 20 := by
  have := umod_lt (R0 i).sup (n := i + 1) (by omega)
  unfold so25F so25
  simp only
  omega
theorem so25_good (R0 : Nat → RailD) {m : Nat} (hm : m ≤ 8) : Good25 m (so25F R0) (fun k => min k 8) := by
  refine ⟨hm, fun k hk => ?_, fun k => by omega, fun k hk => ?_, fun k hk => ?_⟩
  · have := so25_bound R0 k
    by_cases h : (so25F R0 k).sup < 0
    · exact .inl h
    · obtain ⟨q, hq⟩ := Int.eq_ofNat_of_zero_le (show 0 ≤ (so25F R0 k).sup by omega)
      exact .inr ⟨q, hq, by omega, by omega⟩
  · have := so25_bound R0 k
    unfold railOkD
    omega
  · have := so25_bound R0 k
    omega
theorem flip_good (R0 : Nat → RailD) {m : Nat} (hm : m ≤ 8) {G : Nat → RailD} (hG : ∀ j, j < m → G j = flip25 m (so25F R0 (m - 1 - j))) : Good25 m G (fun k => 8 - k) := by
  have hb : ∀ k, k < m → (G k).up < 20 ∧ (G k).dn < 20 ∧ ((G k).sup = -1 ∨ ((k : Int) < (G k).sup ∧ (G k).sup < (m : Int))) := fun k hk => by
    rw [hG k hk]
    have := so25_bound R0 (m - 1 - k)
    unfold flip25
    split
    · simp only
      omega
    · omega
  refine ⟨hm, fun k hk => ?_, fun k => by omega, fun k hk => ?_, fun k hk => ?_⟩
  · obtain ⟨-, -, h⟩ := hb k hk
    rcases h with h | h
    · exact .inl (by omega)
    · obtain ⟨q, hq⟩ := Int.eq_ofNat_of_zero_le (show 0 ≤ (G k).sup by omega)
      exact .inr ⟨q, hq, by omega, by omega⟩
  · have := hb k hk
    unfold railOkD
    omega
  · have := hb k hk
    omega
def Some25Ret (w : World) (e : Ending) (w' : World) : Prop :=
  ∃ v m R rk, e = .returned v ∧ w'.ownsRow w.heap.size 49 3 v m (rlcs R m) ∧ Good25 m R rk ∧ Fr [] w w'
def So25Rel (w : World) (R0 : Nat → RailD) (n m : Nat) (v i : Value) (wr : World) : Prop :=
  ∃ k : Nat, k ≤ n ∧ i = .int .i64 (k : Int) ∧ wr.ownsRow w.heap.size 49 3 v k (rlcs (so25F R0) k) ∧ Fr [] w wr ∧ m = n - k
def Lc (L : List RailD) : List Value := L.flatMap rlc
theorem Lc_len (L : List RailD) : (Lc L).length = L.length * 3 := flat_length rlc_len L
theorem rlcs_list (L : List RailD) (G : Nat → RailD) (h : ∀ i x, L[i]? = some x → G i = x) : rlcs G L.length = Lc L := by
  have e : L = (List.range L.length).map G := by
    apply List.ext_getElem?
    intro i
    by_cases hi : i < L.length
    · rw [List.getElem?_map, List.getElem?_range hi, List.getElem?_eq_getElem hi]
      simp [h i L[i] (List.getElem?_eq_getElem hi)]
    · rw [List.getElem?_eq_none (by omega), List.getElem?_eq_none (by simp; omega)]
  unfold rlcs Lc
  conv => rhs; rw [e, List.flatMap_map]
theorem made_rail (n : Nat) : madeCells (Value.agg #[.int .i64 0, .int .u64 0, .int .u64 0]).cells (n * 3) = (Lc (List.replicate n ⟨0, 0, 0⟩)).toArray := by
  apply Array.ext_getElem?
  intro i
  have hsz : (Lc (List.replicate n ⟨0, 0, 0⟩)).length = n * 3 := by rw [Lc_len, List.length_replicate]
  by_cases hi : i < n * 3
  · have h1 : i / 3 * 3 + i % 3 = i := by omega
    have h2 := flat_get (f := rlc) rlc_len (l := List.replicate n ⟨0, 0, 0⟩) (i := i / 3) (j := i % 3) (a := ⟨0, 0, 0⟩) (by rw [List.getElem?_replicate, if_pos (by omega)]) (by omega)
    rw [h1] at h2
    have h3 : (madeCells (Value.agg #[.int .i64 0, .int .u64 0, .int .u64 0]).cells (n * 3))[i]? = some ((Value.agg #[.int .i64 0, .int .u64 0, .int .u64 0]).cells[i % 3]!) := by
      unfold madeCells
      rw [Array.getElem?_map, Array.getElem?_eq_getElem (by simpa using hi)]
      simp
      rfl
    rw [h3, List.getElem?_toArray]
    refine Eq.trans ?_ h2.symm
    have h4 : i % 3 = 0 ∨ i % 3 = 1 ∨ i % 3 = 2 := by omega
    rcases h4 with h4 | h4 | h4 <;> rw [h4] <;> rfl
  · rw [Array.getElem?_eq_none (by simp [size_madeCells]; omega), Array.getElem?_eq_none (by simp [hsz]; omega)]
theorem make_rails (n : Nat) (hn : n ≤ 64) (w : World) : (Instr.makeSlice 23 (.int .i64 (n : Int)) (.int .i64 (n : Int))).run Try.prog w = .ok (.slice (some ⟨w.heap.size, 0, none⟩) n n) (w.alloc (.cells (Lc (List.replicate n ⟨0, 0, 0⟩)).toArray 49)) := by
  obtain ⟨i, hi, hz, hs, hby⟩ := info_parts rail_info
  have hr := run_make (P := Try.prog) w 23 49 i _ Try.underlying23 hi hz .i64 .i64 n n (by omega) (by omega) (by rw [hby]; omega) (by omega)
  rw [hr, hs]
  simp only [Int.toNat_natCast]
  rw [made_rail n]
theorem over_Lc {B : List RailD} {p : Nat} {x : RailD} (hp : p < B.length) : over (Lc B).toArray (p * 3) (rlc x).toArray = (Lc (B.set p x)).toArray := by
  have hB : B = B.take p ++ B[p] :: B.drop (p + 1) := by rw [← List.drop_eq_getElem_cons hp, List.take_append_drop]
  have hs : B.set p x = B.take p ++ x :: B.drop (p + 1) := List.set_eq_take_append_cons_drop.trans (if_pos hp)
  have hl : (Lc (B.take p)).length = p * 3 := by rw [Lc_len, List.length_take, Nat.min_eq_left (by omega)]
  have e1 : Lc B = Lc (B.take p) ++ (rlc B[p] ++ Lc (B.drop (p + 1))) := by
    have e0 : Lc (B.take p ++ B[p] :: B.drop (p + 1)) = Lc (B.take p) ++ (rlc B[p] ++ Lc (B.drop (p + 1))) := by simp only [Lc, List.flatMap_append, List.flatMap_cons]
    exact (congrArg Lc hB).trans e0
  have e2 : Lc (B.set p x) = Lc (B.take p) ++ (rlc x ++ Lc (B.drop (p + 1))) := by
    rw [hs]
    simp [Lc]
  have h1 : (Lc B).take (p * 3) = Lc (B.take p) := by
    rw [e1]
    exact List.take_left' hl
  have h2 : (Lc B).drop (p * 3 + 3) = Lc (B.drop (p + 1)) := by
    rw [e1, ← List.append_assoc]
    exact List.drop_left' (by rw [List.length_append, hl, rlc_len])
  unfold over
  rw [show (rlc x).toArray.size = 3 from rfl, h1, h2, e2, List.append_assoc]
theorem wpList_store_rail {w : World} {ops : Array Oper} {rest : List Oper} {dst : Option Tmp} {ty : TypeId} {pos : String} {af : Array Edge} {a : Act} {Q : Exit → Act → World → Prop} {x y : Operand} (g p : Nat) (X : RailD) (B : List RailD) (hB : Blk w g 49 (Lc B).toArray) (hp : p < B.length)
    (hx : a.eval x = .pointer (some ⟨g, p * 3, none⟩)) (hy : a.eval y = .agg #[.int .i64 X.sup, .int .u64 (X.up : Int), .int .u64 (X.dn : Int)])
    (h : ∀ w', Blk w' g 49 (Lc (B.set p X)).toArray → Fr [g] w w' → wpList Try.prog ops Q rest (a.put dst undef) w') : wpList Try.prog ops Q (⟨dst, .store 49 x y, ty, pos, af, none⟩ :: rest) a w := by
  refine wpList_store_row w rfl x y 49 rfl g (p * 3) (rlc X).toArray hx hy (by kernel_rfl) (Lc B).toArray 49 hB (by simp [Lc_len, rlc]; omega) (by intro u hu; simp [rlc] at hu; rcases hu with rfl | rfl | rfl <;> rfl) (fun w' h1 h2 => ?_)
  rw [over_Lc hp] at h1
  exact h w' h1 h2
theorem own_of_blk {w : World} {g base size n : Nat} {t : TypeId} {cs : List Value} (h : Blk w g t cs.toArray) (hb : base ≤ g) (hl : cs.length = n * size) (hn : n ≤ maxLen) : w.ownsRow base t size (.slice (some ⟨g, 0, none⟩) n n) n cs :=
  ⟨hl, .inr ⟨g, n, cs.toArray, rfl, hb, h, Nat.le_refl _, hn, by simpa using hl, by rw [← hl]; simp⟩⟩
def S25Rel (w4 : World) (R0 : Nat → RailD) (gb k : Nat) (m : Nat) (i : Value) (wr : World) : Prop :=
  ∃ (q : Nat) (B : List RailD), q ≤ k ∧ i = .int .i64 (q : Int) ∧ B.length = k ∧ Blk wr gb 49 (Lc B).toArray ∧ (∀ i, i < q → B[k - 1 - i]? = some (flip25 k (so25F R0 i))) ∧ Fr [gb] w4 wr ∧ m = k - q
theorem S25_step {B : List RailD} {k q : Nat} {R0 : Nat → RailD} (hB : ∀ i, i < q → B[k - 1 - i]? = some (flip25 k (so25F R0 i))) (hl : B.length = k) (hq : q < k) : ∀ i, i < q + 1 → (B.set (k - 1 - q) (flip25 k (so25F R0 q)))[k - 1 - i]? = some (flip25 k (so25F R0 i)) := fun i hi => by
  by_cases e : i = q
  · subst e
    exact List.getElem?_set_self (by omega)
  · rw [List.getElem?_set_ne (by omega)]
    exact hB i (by omega)
theorem sz_rail : (Try.prog.info? 49).map (·.size) = some 3 := by kernel_rfl
set_option maxHeartbeats 8000000 in
set_option maxRecDepth 100000 in
theorem some25_any (A : Option Addr) (cp n0 : Nat) (R0 : Nat → RailD) (w : World) (hr : Row w A (rlcs R0 n0)) (hl : n0 ≤ 20) :
    Calls Try.prog 16 #[.slice A n0 cp] w (Some25Ret w) := by
  have HR := hide hr
  obtain ⟨i0, hi0, hz0, hz1, hz2⟩ := info_parts rail_info
  have HI := hide (And.intro hi0 (And.intro hz0 (And.intro hz1 hz2)))
  clear hr hi0 hz0 hz1 hz2
  obtain ⟨n, hn⟩ : ∃ n, n = min n0 8 := ⟨_, rfl⟩
  have hnr : n ≤ n0 := by omega
  have hn8 : n ≤ 8 := by omega
  have HN := hide hn
  clear hn
  go_enter Try.func16, Try.ntmps16
  go_wp2
  go_loopg [3, 4] n (fun m v i wr => So25Rel w R0 n m v i wr)
  case atStart => exact ⟨0, by omega, rfl, own_nil _ _ _ _, Fr.refl _ _, rfl⟩
  case round =>
    obtain ⟨k, hk, rfl, hown, hfr, hmm⟩ := hrel
    obtain ⟨A3, c3, rfl, hc3, -, -⟩ := own_slice hown
    have HOWN := hide hown
    have HMM := hide hmm
    clear hown hmm
    by_cases hlt : k < n
    · have b1 : decide ((k : Int) < (n0 : Int)) = true := decide_eq_true (by omega)
      have b2 : decide ((k : Int) < 8) = true := decide_eq_true (by omega)
      have b1n : decide (k < n0) = true := decide_eq_true (by omega)
      have hki : (k : Int) < (n0 : Int) := by omega
      obtain ⟨ob, oo, rfl, hc⟩ := Row.el (f := fun i => rlc (R0 i)) (l := List.range n0) (i := k) (a := k) (fun i => rlc_len (R0 i)) (by omega) (HR.out.fr0 hfr) (by rw [List.getElem?_range (by omega)])
      have hobl : ob < w.heap.size := by
        obtain ⟨ob', oo', e, h⟩ := HR.out.lt (by rw [rlcs_len]; omega)
        injection e with e
        injection e with e1 e2
        rw [e1]
        exact h
      have r0 : wr.cell? ⟨ob, oo + k * 3, none⟩ = some (.int .i64 (R0 k).sup) := hc 0 _ rfl
      have r1 : wr.cell? ⟨ob, oo + k * 3 + 1, none⟩ = some (.int .u64 ((R0 k).up : Int)) := hc 1 _ rfl
      have r2 : wr.cell? ⟨ob, oo + k * 3 + 2, none⟩ = some (.int .u64 ((R0 k).dn : Int)) := hc 2 _ rfl
      have HSO := hide (rlcs_succ (so25F R0) k)
      have hsx : so25F R0 k = ⟨(umod (R0 k).sup (k + 1) : Int) - 1, (R0 k).up % 20, (R0 k).dn % 20⟩ := rfl
      have hub := umod_lt (R0 k).sup (n := k + 1) (by omega)
      have HMK : Hid (∀ wz : World, Calls Try.prog 24 #[.int .i64 (R0 k).sup, .int .i64 ((k : Int) + 1)] wz fun e w' => e = .returned (.int .i64 (umod (R0 k).sup (k + 1) : Int)) ∧ w' = wz) := hide (fun wz => by
        have h := mod_still (R0 k).sup ((k : Int) + 1) wz (by omega) (by omega)
        rw [show ((k : Int) + 1).toNat = k + 1 by omega] at h
        exact h)
      generalize umod (R0 k).sup (k + 1) = um at hsx hub HMK
      generalize (R0 k).sup = sp at r0 HMK
      generalize (R0 k).up = ua at hsx r1
      generalize (R0 k).dn = ub at hsx r2
      obtain ⟨va, hva⟩ : ∃ va, va = ua % 20 := ⟨_, rfl⟩
      obtain ⟨vb, hvb⟩ : ∃ vb, vb = ub % 20 := ⟨_, rfl⟩
      rw [← hva, ← hvb] at hsx
      have ta : (ua : Int).tmod 20 = (va : Int) := by rw [Int.tmod_eq_emod_of_nonneg (by omega)]; omega
      have tb : (ub : Int).tmod 20 = (vb : Int) := by rw [Int.tmod_eq_emod_of_nonneg (by omega)]; omega
      have wa : IntKind.u64.wrap (va : Int) = (va : Int) := by rw [IntKind.wrap_u64]; omega
      have wb : IntKind.u64.wrap (vb : Int) = (vb : Int) := by rw [IntKind.wrap_u64]; omega
      have wk : IntKind.i64.wrap ((k : Int) + 1) = (k : Int) + 1 := by simp [IntKind.wrap, IntKind.signed, IntKind.bits]; omega
      have wm : IntKind.i64.wrap ((um : Int) - 1) = (um : Int) - 1 := by simp [IntKind.wrap, IntKind.signed, IntKind.bits]; omega
      have HS2 : Hid (rlcs (so25F R0) (k + 1) = rlcs (so25F R0) k ++ [.int .i64 ((um : Int) - 1), .int .u64 (va : Int), .int .u64 (vb : Int)]) := hide (by rw [HSO.out, hsx])
      clear hc hsx HSO hva hvb
      go_upto_region 5 with (fail)
      refine wp_region_T (fun w' => w'.cell? ⟨ob, oo + k * 3, none⟩ = some (.int .i64 sp) ∧ w'.cell? ⟨ob, oo + k * 3 + 1, none⟩ = some (.int .u64 (ua : Int)) ∧ w'.cell? ⟨ob, oo + k * 3 + 2, none⟩ = some (.int .u64 (ub : Int))) 25 (by kernel_rfl) ?_
      have hS : (fun w' => w'.cell? ⟨ob, oo + k * 3, none⟩ = some (.int .i64 sp) ∧ w'.cell? ⟨ob, oo + k * 3 + 1, none⟩ = some (.int .u64 (ua : Int)) ∧ w'.cell? ⟨ob, oo + k * 3 + 2, none⟩ = some (.int .u64 (ub : Int))) { wr with drawn := wr.drawn + 1 } := ⟨r0, r1, r2⟩
      refine wpAnyT_take (i := 0) (v := ?v0) rfl (by kernel_rfl) (by kernel_rfl) (fun _ _ _ h => h) (Or.inl ⟨by rfl, ?hy0⟩) hS ?rest0
      case hy0 =>
        intro wz hSw
        obtain ⟨s0, s1, s2⟩ := hSw
        go_simp
        try rfl
      try simp only [Act.put, List.setIfInBounds_toArray, List.set_cons_zero, List.set_cons_succ, List.getElem_toArray, List.getElem_cons_zero]
      refine wpAnyT_take (i := 1) (v := ?v1) rfl (by kernel_rfl) (by kernel_rfl) (fun _ _ _ h => h) (Or.inl ⟨by rfl, ?hy1⟩) hS ?rest1
      case hy1 =>
        intro wz hSw
        obtain ⟨s0, s1, s2⟩ := hSw
        go_simp
        try rfl
      try simp only [Act.put, List.setIfInBounds_toArray, List.set_cons_zero, List.set_cons_succ, List.getElem_toArray, List.getElem_cons_zero, List.getElem_cons_succ]
      refine wpAnyT_take (i := 2) (v := ?v2) rfl (by kernel_rfl) (by kernel_rfl) (fun _ _ _ h => h) (Or.inl ⟨by rfl, ?hy2⟩) hS ?rest2
      case hy2 =>
        intro wz hSw
        obtain ⟨s0, s1, s2⟩ := hSw
        go_simp
        try rfl
      try simp only [Act.put, List.setIfInBounds_toArray, List.set_cons_zero, List.set_cons_succ, List.getElem_toArray, List.getElem_cons_zero, List.getElem_cons_succ]
      refine wpAnyT_take (i := 3) (v := ?v3) rfl (by kernel_rfl) (by kernel_rfl) (fun _ _ _ h => h) (Or.inl ⟨by rfl, ?hy3⟩) hS ?rest3
      case hy3 =>
        intro wz hSw
        obtain ⟨s0, s1, s2⟩ := hSw
        go_simp
        try rfl
      try simp only [Act.put, List.setIfInBounds_toArray, List.set_cons_zero, List.set_cons_succ, List.getElem_toArray, List.getElem_cons_zero, List.getElem_cons_succ]
      refine wpAnyT_take (i := 4) (v := ?v4) rfl (by kernel_rfl) (by kernel_rfl) (fun _ _ _ h => h) (Or.inl ⟨by rfl, ?hy4⟩) hS ?rest4
      case hy4 =>
        intro wz hSw
        obtain ⟨s0, s1, s2⟩ := hSw
        go_simp
        try rfl
      try simp only [Act.put, List.setIfInBounds_toArray, List.set_cons_zero, List.set_cons_succ, List.getElem_toArray, List.getElem_cons_zero, List.getElem_cons_succ]
      refine wpAnyT_take (i := 5) (v := ?v5) rfl (by kernel_rfl) (by kernel_rfl) (fun _ _ _ h => h) (Or.inl ⟨by rfl, ?hy5⟩) hS ?rest5
      case hy5 =>
        intro wz hSw
        obtain ⟨s0, s1, s2⟩ := hSw
        go_simp
        try rfl
      try simp only [Act.put, List.setIfInBounds_toArray, List.set_cons_zero, List.set_cons_succ, List.getElem_toArray, List.getElem_cons_zero, List.getElem_cons_succ]
      refine wpAnyT_take (i := 6) (v := ?v6) rfl (by kernel_rfl) (by kernel_rfl) (fun _ _ _ h => h) (Or.inl ⟨by rfl, ?hy6⟩) hS ?rest6
      case hy6 =>
        intro wz hSw
        obtain ⟨s0, s1, s2⟩ := hSw
        go_simp
        try rfl
      try simp only [Act.put, List.setIfInBounds_toArray, List.set_cons_zero, List.set_cons_succ, List.getElem_toArray, List.getElem_cons_zero, List.getElem_cons_succ]
      refine wpAnyT_take (i := 7) (v := ?v7) rfl (by kernel_rfl) (by kernel_rfl) (fun _ _ _ h => h) (Or.inl ⟨by rfl, ?hy7⟩) hS ?rest7
      case hy7 =>
        intro wz hSw
        obtain ⟨s0, s1, s2⟩ := hSw
        go_simp
        try rfl
      try simp only [Act.put, List.setIfInBounds_toArray, List.set_cons_zero, List.set_cons_succ, List.getElem_toArray, List.getElem_cons_zero, List.getElem_cons_succ]
      refine wpAnyT_take (i := 10) (v := ?v10) rfl (by kernel_rfl) (by kernel_rfl) (fun _ _ _ h => h) (Or.inl ⟨by rfl, ?hy10⟩) hS ?rest10
      case hy10 =>
        intro wz hSw
        obtain ⟨s0, s1, s2⟩ := hSw
        go_simp
        try rfl
      try simp only [Act.put, List.setIfInBounds_toArray, List.set_cons_zero, List.set_cons_succ, List.getElem_toArray, List.getElem_cons_zero, List.getElem_cons_succ]
      refine wpAnyT_take (i := 11) (v := ?v11) rfl (by kernel_rfl) (by kernel_rfl) (fun _ _ _ h => h) (Or.inl ⟨by rfl, ?hy11⟩) hS ?rest11
      case hy11 =>
        intro wz hSw
        obtain ⟨s0, s1, s2⟩ := hSw
        go_simp
        try rfl
      try simp only [Act.put, List.setIfInBounds_toArray, List.set_cons_zero, List.set_cons_succ, List.getElem_toArray, List.getElem_cons_zero, List.getElem_cons_succ]
      refine wpAnyT_take (i := 12) (v := ?v12) rfl (by kernel_rfl) (by kernel_rfl) (fun _ _ _ h => h) (Or.inl ⟨by rfl, ?hy12⟩) hS ?rest12
      case hy12 =>
        intro wz hSw
        obtain ⟨s0, s1, s2⟩ := hSw
        go_simp
        try rfl
      try simp only [Act.put, List.setIfInBounds_toArray, List.set_cons_zero, List.set_cons_succ, List.getElem_toArray, List.getElem_cons_zero, List.getElem_cons_succ]
      refine wpAnyT_take (i := 13) (v := ?v13) rfl (by kernel_rfl) (by kernel_rfl) (fun _ _ _ h => h) (Or.inl ⟨by rfl, ?hy13⟩) hS ?rest13
      case hy13 =>
        intro wz hSw
        obtain ⟨s0, s1, s2⟩ := hSw
        go_simp
        try rfl
      try simp only [Act.put, List.setIfInBounds_toArray, List.set_cons_zero, List.set_cons_succ, List.getElem_toArray, List.getElem_cons_zero, List.getElem_cons_succ]
      refine wpAnyT_take (i := 14) (v := ?v14) rfl (by kernel_rfl) (by kernel_rfl) (fun _ _ _ h => h) (Or.inl ⟨by rfl, ?hy14⟩) hS ?rest14
      case hy14 =>
        intro wz hSw
        obtain ⟨s0, s1, s2⟩ := hSw
        go_simp
        try rfl
      try simp only [Act.put, List.setIfInBounds_toArray, List.set_cons_zero, List.set_cons_succ, List.getElem_toArray, List.getElem_cons_zero, List.getElem_cons_succ]
      refine wpAnyT_take (i := 15) (v := ?v15) rfl (by kernel_rfl) (by kernel_rfl) (fun _ _ _ h => h) (Or.inl ⟨by rfl, ?hy15⟩) hS ?rest15
      case hy15 =>
        intro wz hSw
        obtain ⟨s0, s1, s2⟩ := hSw
        go_simp
        try rfl
      try simp only [Act.put, List.setIfInBounds_toArray, List.set_cons_zero, List.set_cons_succ, List.getElem_toArray, List.getElem_cons_zero, List.getElem_cons_succ]
      refine wpAnyT_take (i := 16) (v := ?v16) rfl (by kernel_rfl) (by kernel_rfl) (fun _ _ _ h => h) (Or.inl ⟨by rfl, ?hy16⟩) hS ?rest16
      case hy16 =>
        intro wz hSw
        obtain ⟨s0, s1, s2⟩ := hSw
        go_simp
        try rfl
      try simp only [Act.put, List.setIfInBounds_toArray, List.set_cons_zero, List.set_cons_succ, List.getElem_toArray, List.getElem_cons_zero, List.getElem_cons_succ]
      refine wpAnyT_take (i := 17) (v := ?v17) rfl (by kernel_rfl) (by kernel_rfl) (fun _ _ _ h => h) (Or.inl ⟨by rfl, ?hy17⟩) hS ?rest17
      case hy17 =>
        intro wz hSw
        obtain ⟨s0, s1, s2⟩ := hSw
        go_simp
        try rfl
      try simp only [Act.put, List.setIfInBounds_toArray, List.set_cons_zero, List.set_cons_succ, List.getElem_toArray, List.getElem_cons_zero, List.getElem_cons_succ]
      refine wpAnyT_take (i := 18) (v := ?v18) rfl (by kernel_rfl) (by kernel_rfl) (fun _ _ _ h => h) (Or.inl ⟨by rfl, ?hy18⟩) hS ?rest18
      case hy18 =>
        intro wz hSw
        obtain ⟨s0, s1, s2⟩ := hSw
        go_simp
        try rfl
      try simp only [Act.put, List.setIfInBounds_toArray, List.set_cons_zero, List.set_cons_succ, List.getElem_toArray, List.getElem_cons_zero, List.getElem_cons_succ]
      refine wpAnyT_take (i := 19) (v := ?v19) rfl (by kernel_rfl) (by kernel_rfl) (fun _ _ _ h => h) (Or.inl ⟨by rfl, ?hy19⟩) hS ?rest19
      case hy19 =>
        intro wz hSw
        obtain ⟨s0, s1, s2⟩ := hSw
        go_simp
        try rfl
      try simp only [Act.put, List.setIfInBounds_toArray, List.set_cons_zero, List.set_cons_succ, List.getElem_toArray, List.getElem_cons_zero, List.getElem_cons_succ]
      refine wpAnyT_take (i := 20) (v := ?v20) rfl (by kernel_rfl) (by kernel_rfl) (fun _ _ _ h => h) (Or.inl ⟨by rfl, ?hy20⟩) hS ?rest20
      case hy20 =>
        intro wz hSw
        obtain ⟨s0, s1, s2⟩ := hSw
        go_simp
        try rfl
      try simp only [Act.put, List.setIfInBounds_toArray, List.set_cons_zero, List.set_cons_succ, List.getElem_toArray, List.getElem_cons_zero, List.getElem_cons_succ]
      refine wpAnyT_take (i := 21) (v := ?v21) rfl (by kernel_rfl) (by kernel_rfl) (fun _ _ _ h => h) (Or.inl ⟨by rfl, ?hy21⟩) hS ?rest21
      case hy21 =>
        intro wz hSw
        obtain ⟨s0, s1, s2⟩ := hSw
        go_simp
        try rfl
      try simp only [Act.put, List.setIfInBounds_toArray, List.set_cons_zero, List.set_cons_succ, List.getElem_toArray, List.getElem_cons_zero, List.getElem_cons_succ]
      refine wpAnyT_one (i := 8) (by kernel_rfl) rfl (by rfl) (fun K hK => ?_)
      go_simp
      go_at_call 24
      refine (HMK.out _).mono ?_
      rintro e w8 ⟨rfl, rfl⟩
      refine hK _ _ (.inr hS) ?_
      try simp only [Act.put, List.setIfInBounds_toArray, List.set_cons_zero, List.set_cons_succ, List.getElem_toArray, List.getElem_cons_zero, List.getElem_cons_succ]
      refine wpAnyT_one (i := 9) (by kernel_rfl) rfl (by rfl) (fun K9 hK9 => ?_)
      go_simp
      refine hK9 _ _ (.inr hS) ?_
      try simp only [Act.put, List.setIfInBounds_toArray, List.set_cons_zero, List.set_cons_succ, List.getElem_toArray, List.getElem_cons_zero, List.getElem_cons_succ]
      refine wpAnyT_one (i := 22) (by kernel_rfl) rfl (by rfl) (fun K22 hK22 => ?_)
      go_simp
      refine hK22 _ _ (.inr hS) ?_
      try simp only [Act.put, List.setIfInBounds_toArray, List.set_cons_zero, List.set_cons_succ, List.getElem_toArray, List.getElem_cons_zero, List.getElem_cons_succ]
      clear hS
      have hf67 : Fr [] wr ((wr.alloc (.cells #[.int .i64 ((um : Int) - 1), .int .u64 (va : Int), .int .u64 (vb : Int)] 49)).drew) := ((Fr.refl _ _).alloc _).drew
      refine wpAnyT_one (i := 23) (by kernel_rfl) rfl (by rfl) (fun K23 hK23 => ?_)
      go_simp
      refine hK23 _ _ (.inr ⟨hf67.cell r0 (by simp), hf67.cell r1 (by simp), hf67.cell r2 (by simp)⟩) ?_
      refine wpAnyT_one (i := 24) (by kernel_rfl) rfl (by rfl) (fun K24 hK24 => ?_)
      refine wp_append_row _ (.tmp 19) (.tmp 42) 23 (by rfl) w.heap.size 49 i0 (.agg #[.int .i64 0, .int .u64 0, .int .u64 0]) 3 24 Try.underlying23 HI.out.1 HI.out.2.1 HI.out.2.2.1 HI.out.2.2.2 rfl (by omega) (.slice A3 k c3) k (rlcs (so25F R0) k) (by rfl)
        (own_fr HOWN.out hf67 (fun _ _ => by simp)) (some ⟨wr.heap.size, 0, none⟩) 1 1 [.int .i64 ((um : Int) - 1), .int .u64 (va : Int), .int .u64 (vb : Int)] (by rfl) rfl ((row_lit wr #[.int .i64 ((um : Int) - 1), .int .u64 (va : Int), .int .u64 (vb : Int)] 49 rfl).fr0 (Fr.refl _ _).drew) (by intro u hu; simp at hu; rcases hu with rfl | rfl | rfl <;> rfl) (by simp only [maxLen]; omega) (by omega) (by have := hfr.size; simp; omega) ?_
      intro v7 w7 hown7 hg7 hat7
      obtain ⟨A6, c6, rfl, -, -, -⟩ := own_slice hown7
      have hf7 : Fr (Value.slice A3 k c3).ownBlock.toList wr w7 := hf67.mono (fun _ _ h => by cases h) |>.trans (Fr.of_grown hg7)
      have hnb : ob ∉ (Value.slice A3 k c3).ownBlock.toList := fun hm => by
        have h1 := (own_block HOWN.out (show (Value.slice A3 k c3).ownBlock = some ob by simpa using hm)).1
        omega
      refine hK24 _ _ (.inr ⟨hf7.cell r0 hnb, hf7.cell r1 hnb, hf7.cell r2 hnb⟩) ?_
      try simp only [Act.put, List.setIfInBounds_toArray, List.set_cons_zero, List.set_cons_succ, List.getElem_toArray, List.getElem_cons_zero, List.getElem_cons_succ]
      refine wpAnyT_one (i := 25) (by kernel_rfl) rfl (by rfl) (fun K25 hK25 => ?_)
      go_simp
      refine hK25 _ _ (.inl rfl) ?_
      try simp only [Act.put, List.setIfInBounds_toArray, List.set_cons_zero, List.set_cons_succ, List.getElem_toArray, List.getElem_cons_zero, List.getElem_cons_succ]
      refine wpAnyT_done (by kernel_rfl) ?_ _
      have hfw7 : Fr [] w w7 := hfr.step hf7 (fun i hi => .inr (own_block HOWN.out (by simpa using hi)).1)
      have HOW7 := hide hown7
      clear hown7 hg7 hat7 hf7 hnb hf67 r0 r1 r2
      go_wp2
      go_roundg (n - (k + 1))
      case measure => rw [HMM.out]; omega
      case rel => exact ⟨k + 1, by omega, by go_num, by rw [HS2.out]; exact HOW7.out, hfw7, rfl⟩
    · have hkn : k = n := by omega
      have b1 : (decide ((k : Int) < (n0 : Int)) = false ∧ decide (k < n0) = false) ∨ (decide ((k : Int) < (n0 : Int)) = true ∧ decide (k < n0) = true ∧ decide ((k : Int) < 8) = false) := by
        have := HN.out
        simp only [decide_eq_true_eq, decide_eq_false_iff_not]
        omega
      have HKN := hide hkn
      have hk8 : k ≤ 8 := by omega
      have hmod : (k : Int).tmod 2 = (k : Int) % 2 := Int.tmod_eq_emod_of_nonneg (by omega)
      clear hkn
      rcases b1 with ⟨b1, b1n⟩ | ⟨b1, b1n, b2⟩
      all_goals
        go_upto_region 6 with (fail)
        clear b1 b1n
        by_cases hev : k % 2 = 0
        · have he0 : ((k : Int) % 2 == 1) = false := beq_eq_false_iff_ne.2 (by omega)
          have hw2 : IntKind.i64.wrap ((k : Int) % 2) = (k : Int) % 2 := by simp [IntKind.wrap, IntKind.signed, IntKind.bits]; omega
          clear hev
          go_wp2
          go_ret
          exact ⟨_, k, so25F R0, _, rfl, HOWN.out, so25_good R0 hk8, hfr⟩
        · have he0 : ((k : Int) % 2 == 1) = true := by simp; omega
          have hw2 : IntKind.i64.wrap ((k : Int) % 2) = (k : Int) % 2 := by simp [IntKind.wrap, IntKind.signed, IntKind.bits]; omega
          have hk1 : 0 < k := by omega
          clear hev
          have hmk := make_rails k (by omega) wr
          have hf1 : Fr [] wr (wr.alloc (.cells (Lc (List.replicate k ⟨0, 0, 0⟩)).toArray 49)) := (Fr.refl _ _).alloc _
          have hb1 := Blk.new wr 49 (Lc (List.replicate k ⟨0, 0, 0⟩)).toArray
          have HOB := hide (fun b hb => (own_block HOWN.out (g := b) hb).2.1)
          have hzw := hfr.size
          go_upto_region 9 with (fail)
          clear hmk
          generalize wr.alloc (.cells (Lc (List.replicate k ⟨0, 0, 0⟩)).toArray 49) = w4 at hf1 hb1 ⊢
          generalize wr.heap.size = gb at hb1 HOB hzw ⊢
          have HOWN4 := hide (own_fr HOWN.out hf1 (fun _ _ => by simp))
          have hfr4 := hfr.call hf1
          have HB1 := hide hb1
          clear HOWN hf1 hb1 hfr he0 hw2 hmod
          clear wr
          go_wp2
          go_loopg [7] k (fun m i wr => S25Rel w4 R0 gb k m i wr)
          case atStart => exact ⟨0, List.replicate k ⟨0, 0, 0⟩, by omega, rfl, by simp, HB1.out, fun i hi => by omega, Fr.refl _ _, rfl⟩
          case round =>
            obtain ⟨q, B, hq, rfl, hBl, hblk, hB, hf4, hmm⟩ := hrel
            have HM := hide hmm
            have HBL := hide hBl
            have HBK := hide hblk
            have HBB := hide hB
            have hoff : ∀ b, (Value.slice A3 k c3).ownBlock = some b → b ∉ [gb] := fun b hb hm => by
              have := HOB.out b hb
              have := List.mem_singleton.1 hm
              omega
            have HOWR := hide (own_fr HOWN4.out hf4 hoff)
            clear hmm hBl hblk hB hoff HB1
            by_cases hlt : q < k
            · have hqk : (q : Int) < (k : Int) := by omega
              obtain ⟨ob, oo, rfl, hc⟩ := Row.el (f := fun i => rlc (so25F R0 i)) (l := List.range k) (i := q) (a := q) (fun i => rlc_len _) (by omega) (Row.of_own HOWR.out) (by rw [List.getElem?_range (by omega)])
              have r0 : wr.cell? ⟨ob, oo + q * 3, none⟩ = some (.int .i64 (so25F R0 q).sup) := hc 0 _ rfl
              have r1 : wr.cell? ⟨ob, oo + q * 3 + 1, none⟩ = some (.int .u64 ((so25F R0 q).up : Int)) := hc 1 _ rfl
              have r2 : wr.cell? ⟨ob, oo + q * 3 + 2, none⟩ = some (.int .u64 ((so25F R0 q).dn : Int)) := hc 2 _ rfl
              have hbd := so25_bound R0 q
              have HX := hide (S25_step HBB.out HBL.out hlt)
              have HFX : Hid (flip25 k (so25F R0 q) = if 0 ≤ (so25F R0 q).sup then ⟨(k : Int) - 1 - (so25F R0 q).sup, (so25F R0 q).up, (so25F R0 q).dn⟩ else ⟨(so25F R0 q).sup, (so25F R0 q).up, (so25F R0 q).dn⟩) := hide rfl
              generalize so25F R0 q = X0 at r0 r1 r2 hbd HX HFX
              obtain ⟨sp, ua, ub⟩ := X0
              simp only at r0 r1 r2 hbd HFX
              obtain ⟨p, hp⟩ : ∃ p, p = k - 1 - q := ⟨_, rfl⟩
              have hpi : (k : Int) - 1 - (q : Int) = (p : Int) := by omega
              rw [← hp] at HX
              have hpk : p < k := by omega
              have hpl : (p : Int) < (k : Int) := by omega
              have hwk : IntKind.i64.wrap ((k : Int) - 1) = (k : Int) - 1 := by simp [IntKind.wrap, IntKind.signed, IntKind.bits]; omega
              have hwp : IntKind.i64.wrap (p : Int) = (p : Int) := by simp [IntKind.wrap, IntKind.signed, IntKind.bits]; omega
              have hwq : IntKind.i64.wrap ((k : Int) - 1 - sp) = (k : Int) - 1 - sp := by simp [IntKind.wrap, IntKind.signed, IntKind.bits]; omega
              have hgb := HBK.out.lt
              have hgd := hf4.size
              have hfd : Fr [] wr (wr.alloc (.cells #[.int .i64 sp, .int .u64 (ua : Int), .int .u64 (ub : Int)] 49)) := (Fr.refl _ _).alloc _
              have hbd2 := Blk.new wr 49 #[.int .i64 sp, .int .u64 (ua : Int), .int .u64 (ub : Int)]
              have HB5 := hide (HBK.out.fr hfd (by simp))
              clear hc hp
              go_upto_region 13 with (fail)
              clear r0 r1 r2
              generalize wr.alloc (.cells #[.int .i64 sp, .int .u64 (ua : Int), .int .u64 (ub : Int)] 49) = w5 at hfd hbd2 HB5 ⊢
              generalize wr.heap.size = gd at hbd2 hgb hgd ⊢
              have hgne : gb ≠ gd := by omega
              have hpB : p < B.length := by rw [HBL.out]; exact hpk
              have hf45 := hf4.trans (hfd.mono (fun _ _ h => by cases h))
              have x0 := hbd2.cell 0
              have x1 := hbd2.cell 1
              have x2 := hbd2.cell 2
              simp only [List.getElem?_toArray, List.getElem?_cons_zero, List.getElem?_cons_succ] at x0 x1 x2
              have fx0 := hbd2.frozen 0
              have HBD := hide hbd2
              clear hbd2 hfd
              by_cases hs0 : 0 ≤ sp
              · have hb0 : decide ((0 : Int) ≤ sp) = true := decide_eq_true hs0
                rw [if_pos hs0] at HFX
                have hb6 := HBD.out.set_ 0 (.int .i64 ((k : Int) - 1 - sp))
                have hf56 : Fr [gd] w5 (w5.setCell ⟨gd, 0, none⟩ (.int .i64 ((k : Int) - 1 - sp))) := (Fr.refl _ _).set (.inl (by simp)) _
                have HB6 := hide (HB5.out.far (p := ⟨gd, 0, none⟩) hgne (.int .i64 ((k : Int) - 1 - sp)))
                have hf46 : Fr [gb, gd] w4 (w5.setCell ⟨gd, 0, none⟩ (.int .i64 ((k : Int) - 1 - sp))) := (hf45.mono (fun _ _ h => by simp at h; simp [h])).trans (hf56.mono (fun _ _ h => by simp at h; simp [h]))
                have y0 := hb6.cell 0
                have y1 := hb6.cell 1
                have y2 := hb6.cell 2
                simp at y0 y1 y2
                clear hb6 hf56 hs0
                go_upto_region 15 with (fail)
                clear x0 x1 x2 fx0 HBD HB5
                generalize w5.setCell ⟨gd, 0, none⟩ (.int .i64 ((k : Int) - 1 - sp)) = w6 at HB6 hf46 y0 y1 y2 ⊢
                go_wp2_with ((with_reducible refine wpList_store_rail gb p ⟨(k : Int) - 1 - sp, ua, ub⟩ B HB6.out hpB ?_ ?_ ?_); rfl; rfl; intro w7 hb7 hf7)
                rw [← HFX.out] at hb7
                have HB7 := hide hb7
                have hf47 : Fr [gb] w4 w7 := (hf46.mono (S' := [gb]) (fun y hy hm => by simp at hm; rcases hm with h | h; exact List.mem_singleton.2 h; omega)).trans hf7
                go_roundg (k - (q + 1))
                case measure => rw [HM.out]; omega
                case rel => exact ⟨q + 1, _, by omega, by go_num, by rw [List.length_set, HBL.out], HB7.out, HX.out, hf47, rfl⟩
              · have hb0 : decide ((0 : Int) ≤ sp) = false := decide_eq_false hs0
                rw [if_neg hs0] at HFX
                have hf46 : Fr [gb, gd] w4 w5 := hf45.mono (fun _ _ h => by simp at h; simp [h])
                clear hs0
                go_upto_region 15 with (fail)
                go_wp2_with ((with_reducible refine wpList_store_rail gb p ⟨sp, ua, ub⟩ B HB5.out hpB ?_ ?_ ?_); rfl; rfl; intro w7 hb7 hf7)
                rw [← HFX.out] at hb7
                have HB7 := hide hb7
                have hf47 : Fr [gb] w4 w7 := (hf46.mono (S' := [gb]) (fun y hy hm => by simp at hm; rcases hm with h | h; exact List.mem_singleton.2 h; omega)).trans hf7
                go_roundg (k - (q + 1))
                case measure => rw [HM.out]; omega
                case rel => exact ⟨q + 1, _, by omega, by go_num, by rw [List.length_set, HBL.out], HB7.out, HX.out, hf47, rfl⟩
            · have hqe : q = k := by omega
              subst hqe
              have hqk : ¬ (q : Int) < (q : Int) := by omega
              have HG : Hid (∀ j, j < q → (fun j => B.getD j ⟨0, 0, 0⟩) j = flip25 q (so25F R0 (q - 1 - j))) := hide (fun j hj => by
                have h := HBB.out (q - 1 - j) (by omega)
                rw [show q - 1 - (q - 1 - j) = j by omega] at h
                simp only [List.getD_eq_getElem?_getD, h]
                rfl)
              have HRL : Hid (rlcs (fun j => B.getD j ⟨0, 0, 0⟩) q = Lc B) := hide (by
                rw [← HBL.out]
                exact rlcs_list B _ (fun i x hx => by simp [List.getD_eq_getElem?_getD, hx]))
              go_wp2
              go_ret
              refine ⟨_, q, (fun j => B.getD j ⟨0, 0, 0⟩), _, rfl, ?_, flip_good R0 hk8 HG.out, hfr4.call' hf4 hzw⟩
              rw [HRL.out]
              exact own_of_blk HBK.out hzw (by rw [Lc_len, HBL.out]) (by simp only [maxLen]; omega)
end Go.Proofs.Ytdocdgghphhdpaa

