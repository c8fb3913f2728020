/- Walks: the reference's Verify. -/
import Derived.Test.YtinengemeppefaaSchR5Mg
import Derived.Test.YtinengemeppefaaSchR1Mg
import Derived.Deep.DeepCutAuto
namespace Go.Proofs.Ytinengemeppefaa
open Go.RowKit

theorem clash_symm {x y : RSl} : Clash x y ↔ Clash y x := by
  unfold Clash
  constructor
  · rintro ⟨a, b, c⟩; exact ⟨a.symm, c, b⟩
  · rintro ⟨a, b, c⟩; exact ⟨a.symm, c, b⟩
/-- No two slots clash: told by their places. -/
theorem noclash_iff {sl : List RSl} : NoClash sl ↔ ∀ (a b : Nat) (x y : RSl), sl[a]? = some x → sl[b]? = some y → a ≠ b → ¬ Clash x y := by
  unfold NoClash
  rw [List.pairwise_iff_getElem]
  constructor
  · intro h a b x y ha hb hne hc
    obtain ⟨ha1, rfl⟩ := List.getElem?_eq_some_iff.1 ha
    obtain ⟨hb1, rfl⟩ := List.getElem?_eq_some_iff.1 hb
    rcases Nat.lt_or_gt_of_ne hne with h1 | h1
    · exact h a b ha1 hb1 h1 (clash_symm.1 hc)
    · exact h b a hb1 ha1 h1 hc
  · intro h a b ha hb hlt hc
    exact h b a _ _ (List.getElem?_eq_getElem hb) (List.getElem?_eq_getElem ha) (by omega) hc
/-- The program's answer without workers is the reference's. -/
theorem verM_wk {n : Int} {l : List (Int × Int)} {dur : List Nat} {sl : List RSl} (h : rinM n l dur 0 = 0) : verM n l dur 0 sl = 1 := by
  have h1 : chkM n l dur 0 = 1 := by rw [rinM_zero_wk, if_pos h]
  rw [verM_bad (by omega), h1]
theorem verM_rin {n W : Int} {l : List (Int × Int)} {dur : List Nat} {sl : List RSl} (h : ¬ rinM n l dur W = 0) : verM n l dur W sl = rinM n l dur W := by
  have h1 : chkM n l dur W = rinM n l dur W := by
    by_cases hW : W = 0
    · subst hW
      rw [rinM_zero_wk, if_neg h]
    · exact (rinM_chk hW).symm
  rw [verM_bad (by rw [h1]; exact h), h1]
def VrRel1 (w1 : World) (sl : List RSl) (N : Nat) (m : Nat) (i : Value) (wr : World) : Prop :=
  ∃ k : Nat, k ≤ N ∧ i = .int .i64 k ∧ (∀ (a b : Nat) (x y : RSl), a < k → sl[a]? = some x → sl[b]? = some y → a ≠ b → ¬ Clash x y) ∧ Fr [] w1 wr ∧ m = N - k
def VrRel2 (w1 : World) (sl : List RSl) (N k : Nat) (x : RSl) (m : Nat) (i : Value) (wr : World) : Prop :=
  ∃ j : Nat, j ≤ N ∧ i = .int .i64 j ∧ (∀ (b : Nat) (y : RSl), b < j → sl[b]? = some y → k ≠ b → ¬ Clash x y) ∧ Fr [] w1 wr ∧ m = N - j
def VrRel3 (w1 : World) (sl : List RSl) (l : List (Int × Int)) (m : Nat) (i : Value) (wr : World) : Prop :=
  ∃ k : Nat, k ≤ l.length ∧ i = .int .i64 k ∧ (∀ q ∈ l.take k, DepOk sl q) ∧ Fr [] w1 wr ∧ m = l.length - k
def VrRel4 (w1 : World) (sl : List RSl) (N : Nat) (q : Int × Int) (m : Nat) (i : Value) (wr : World) : Prop :=
  ∃ k : Nat, k ≤ N ∧ i = .int .i64 k ∧ (∀ (a : Nat) (x y : RSl), a < k → sl[a]? = some x → y ∈ sl → x.d = q.1 → y.d = q.2 → y.e ≤ x.s) ∧ Fr [] w1 wr ∧ m = N - k
def VrRel5 (w1 : World) (sl : List RSl) (N : Nat) (q : Int × Int) (x : RSl) (m : Nat) (i : Value) (wr : World) : Prop :=
  ∃ k : Nat, k ≤ N ∧ i = .int .i64 k ∧ (∀ (b : Nat) (y : RSl), b < k → sl[b]? = some y → x.d = q.1 → y.d = q.2 → y.e ≤ x.s) ∧ Fr [] w1 wr ∧ m = N - k
def TwoRet (w : World) (X Y : Array Value) (a b : Value) (W : World) : Prop :=
  ∃ xb yb : Nat, a = .pointer (some ⟨xb, 0, none⟩) ∧ b = .pointer (some ⟨yb, 0, none⟩) ∧ Blk W xb 38 X ∧ Blk W yb 38 Y ∧ Fr [] w W
theorem two_xy (w : World) (X Y : Array Value) : TwoRet w X Y (.pointer (some ⟨w.heap.size, 0, none⟩)) (.pointer (some ⟨w.heap.size + 1, 0, none⟩)) ((w.alloc (.cells X 38)).alloc (.cells Y 38)).drew := by
  have h1 := Blk.new w 38 X
  have h2 := Blk.new (w.alloc (.cells X 38)) 38 Y
  rw [show (w.alloc (.cells X 38)).heap.size = w.heap.size + 1 by simp] at h2
  have hd := (Fr.refl [] ((w.alloc (.cells X 38)).alloc (.cells Y 38))).drewN 1
  exact ⟨_, _, rfl, rfl, (h1.fr ((Fr.refl [] _).alloc _) (by simp)).fr hd (by simp), h2.fr hd (by simp), (((Fr.refl [] w).alloc _).alloc _).drewN 1⟩
theorem two_yx (w : World) (X Y : Array Value) : TwoRet w X Y (.pointer (some ⟨w.heap.size + 1, 0, none⟩)) (.pointer (some ⟨w.heap.size, 0, none⟩)) ((w.alloc (.cells Y 38)).alloc (.cells X 38)).drew := by
  have h1 := Blk.new w 38 Y
  have h2 := Blk.new (w.alloc (.cells Y 38)) 38 X
  rw [show (w.alloc (.cells Y 38)).heap.size = w.heap.size + 1 by simp] at h2
  have hd := (Fr.refl [] ((w.alloc (.cells Y 38)).alloc (.cells X 38))).drewN 1
  exact ⟨_, _, rfl, rfl, h2.fr hd (by simp), (h1.fr ((Fr.refl [] _).alloc _) (by simp)).fr hd (by simp), (((Fr.refl [] w).alloc _).alloc _).drewN 1⟩
set_option maxHeartbeats 8000000 in
set_option maxRecDepth 100000 in
theorem rverify31_any (n W : Int) (A B C : Option Addr) (cp cq cc : Nat) (l : List (Int × Int)) (dur : List Nat) (sl : List RSl) (w : World) (hr : Row w A (pcs l)) (hb : Row w B (dur.map uv)) (hs : Row w C (rcells sl)) (hm : l.length ≤ 4096) (hsm : sl.length ≤ 4096) (hfit : ∀ x ∈ sl, RFits x) :
    Calls Try.prog 25 #[.int .i64 n, .slice A l.length cp, .slice B dur.length cq, .int .i64 W, .slice C sl.length cc] w fun e w' => e = .returned (.int .i64 (verM n l dur W sl)) ∧ Fr [] w w' := by
  have HB := hide hb
  have HR := hide hr
  have HS := hide hs
  have HFT := hide hfit
  clear hr hb hs hfit
  go_enter Try.func25, Try.ntmps25
  go_wp2_with fail
  refine (rinput31_any n W A B cp cq l dur w HR.out HB.out hm).mono ?_
  rintro e w1 ⟨rfl, hf1⟩
  by_cases hr0 : rinM n l dur W = 0
  · by_cases hW : W = 0
    · subst hW
      have HV := hide (verM_wk (sl := sl) hr0)
      rw [hr0]
      clear hr0
      go_wp2
      go_ret
      exact ⟨ret_int HV.out.symm, hf1⟩
    · have hc : chkM n l dur W = 0 := by rw [← rinM_chk hW]; exact hr0
      obtain ⟨N, V, rfl, rfl, hgood⟩ := chkM_good hc
      have hWb : ((V : Int) == 0) = false := by simpa using hW
      have HC := hide hc
      have HG := hide hgood
      have hN := hgood.nodes
      rw [hr0]
      clear hc hgood hr0 hW
      go_wp2_with fail
      refine (rshaped31_any N V B C cq cc dur sl w1 (HB.out.fr0 hf1) (HS.out.fr0 hf1) (by omega) HG.out.len HG.out.dur hsm HFT.out).mono ?_
      rintro e w2 ⟨rfl, hf2⟩
      by_cases hsh : Shaped N V (durF dur) sl
      · rw [decide_eq_true hsh]
        have hlen : sl.length = N := hsh.1
        have HSH := hide hsh
        have HLEN := hide hlen
        have hw2 := hf1.call hf2
        clear hsh hlen
        go_wp2
        go_loopg [12] N (fun m i wr => VrRel1 w2 sl N m i wr)
        case atStart => exact ⟨0, by omega, rfl, fun a b x y h => absurd h (by omega), Fr.refl _ _, rfl⟩
        case round =>
          obtain ⟨k, hk, rfl, hall, hfr, hmm⟩ := hrel
          have HM := hide hmm
          have HALL := hide hall
          clear hmm hall
          by_cases hlt : k < N
          · obtain ⟨x, hx⟩ : ∃ x, sl[k]? = some x := ⟨_, List.getElem?_eq_getElem (by have := HLEN.out; omega)⟩
            have hkl : (k : Int) < (N : Int) := by omega
            have HX := hide hx
            clear hx
            go_wp2
            go_loopg [13] N (fun m i wi => VrRel2 wr sl N k x m i wi)
            case atStart => exact ⟨0, by omega, rfl, fun b y h => absurd h (by omega), Fr.refl _ _, rfl⟩
            case round =>
              obtain ⟨j, hj, rfl, hall2, hfr2, hmm⟩ := hrel
              have HM2 := hide hmm
              have HALL2 := hide hall2
              clear hmm hall2
              by_cases hlt2 : j < N
              · obtain ⟨y, hy⟩ : ∃ y, sl[j]? = some y := ⟨_, List.getElem?_eq_getElem (by have := HLEN.out; omega)⟩
                have hjl : (j : Int) < (N : Int) := by omega
                have hks : (k : Int) < (sl.length : Int) := by rw [HLEN.out]; omega
                have hjs : (j : Int) < (sl.length : Int) := by rw [HLEN.out]; omega
                have HY := hide hy
                clear hy
                have hSw := (HS.out.fr0 hw2).fr0 (hfr.call hfr2)
                obtain ⟨xd, xw, xs, xe⟩ := x
                obtain ⟨yd, yw, ys, ye⟩ := y
                obtain ⟨ob, oo, rfl, c0, c1, c2, c3⟩ := hSw.slot HX.out
                obtain ⟨ob2, oo2, e2, d0, d1, d2, d3⟩ := hSw.slot HY.out
                injection e2 with e2
                injection e2 with e2 e3
                subst e2 e3
                have hS0 := hSw.fr0 ((Fr.refl [] wr).alloc (.cells #[.int .i64 0, .int .i64 0, .int .u64 0, .int .u64 0] 38))
                obtain ⟨ob2, oo2, e2, p00, p01, p02, p03⟩ := hS0.slot HX.out
                injection e2 with e2
                injection e2 with e2 e3
                subst e2 e3
                obtain ⟨ob2, oo2, e2, q00, q01, q02, q03⟩ := hS0.slot HY.out
                injection e2 with e2
                injection e2 with e2 e3
                subst e2 e3
                have hS1 := hSw.fr0 ((Fr.refl [] wr).alloc (.cells #[.int .i64 xd, .int .i64 xw, .int .u64 (xs : Int), .int .u64 (xe : Int)] 38))
                obtain ⟨ob2, oo2, e2, p10, p11, p12, p13⟩ := hS1.slot HX.out
                injection e2 with e2
                injection e2 with e2 e3
                subst e2 e3
                obtain ⟨ob2, oo2, e2, q10, q11, q12, q13⟩ := hS1.slot HY.out
                injection e2 with e2
                injection e2 with e2 e3
                subst e2 e3
                have hS2 := hSw.fr0 ((Fr.refl [] wr).alloc (.cells #[.int .i64 yd, .int .i64 yw, .int .u64 (ys : Int), .int .u64 (ye : Int)] 38))
                obtain ⟨ob2, oo2, e2, p20, p21, p22, p23⟩ := hS2.slot HX.out
                injection e2 with e2
                injection e2 with e2 e3
                subst e2 e3
                obtain ⟨ob2, oo2, e2, q20, q21, q22, q23⟩ := hS2.slot HY.out
                injection e2 with e2
                injection e2 with e2 e3
                subst e2 e3
                have hS3 := hSw.fr0 (((Fr.refl [] wr).alloc (.cells #[.int .i64 0, .int .i64 0, .int .u64 0, .int .u64 0] 38)).alloc (.cells #[.int .i64 0, .int .i64 0, .int .u64 0, .int .u64 0] 38))
                obtain ⟨ob2, oo2, e2, p30, p31, p32, p33⟩ := hS3.slot HX.out
                injection e2 with e2
                injection e2 with e2 e3
                subst e2 e3
                obtain ⟨ob2, oo2, e2, q30, q31, q32, q33⟩ := hS3.slot HY.out
                injection e2 with e2
                injection e2 with e2 e3
                subst e2 e3
                have hS4 := hSw.fr0 (((Fr.refl [] wr).alloc (.cells #[.int .i64 0, .int .i64 0, .int .u64 0, .int .u64 0] 38)).alloc (.cells #[.int .i64 xd, .int .i64 xw, .int .u64 (xs : Int), .int .u64 (xe : Int)] 38))
                obtain ⟨ob2, oo2, e2, p40, p41, p42, p43⟩ := hS4.slot HX.out
                injection e2 with e2
                injection e2 with e2 e3
                subst e2 e3
                obtain ⟨ob2, oo2, e2, q40, q41, q42, q43⟩ := hS4.slot HY.out
                injection e2 with e2
                injection e2 with e2 e3
                subst e2 e3
                have hS5 := hSw.fr0 (((Fr.refl [] wr).alloc (.cells #[.int .i64 xd, .int .i64 xw, .int .u64 (xs : Int), .int .u64 (xe : Int)] 38)).alloc (.cells #[.int .i64 0, .int .i64 0, .int .u64 0, .int .u64 0] 38))
                obtain ⟨ob2, oo2, e2, p50, p51, p52, p53⟩ := hS5.slot HX.out
                injection e2 with e2
                injection e2 with e2 e3
                subst e2 e3
                obtain ⟨ob2, oo2, e2, q50, q51, q52, q53⟩ := hS5.slot HY.out
                injection e2 with e2
                injection e2 with e2 e3
                subst e2 e3
                have hS6 := hSw.fr0 (((Fr.refl [] wr).alloc (.cells #[.int .i64 0, .int .i64 0, .int .u64 0, .int .u64 0] 38)).alloc (.cells #[.int .i64 yd, .int .i64 yw, .int .u64 (ys : Int), .int .u64 (ye : Int)] 38))
                obtain ⟨ob2, oo2, e2, p60, p61, p62, p63⟩ := hS6.slot HX.out
                injection e2 with e2
                injection e2 with e2 e3
                subst e2 e3
                obtain ⟨ob2, oo2, e2, q60, q61, q62, q63⟩ := hS6.slot HY.out
                injection e2 with e2
                injection e2 with e2 e3
                subst e2 e3
                have hS7 := hSw.fr0 (((Fr.refl [] wr).alloc (.cells #[.int .i64 yd, .int .i64 yw, .int .u64 (ys : Int), .int .u64 (ye : Int)] 38)).alloc (.cells #[.int .i64 0, .int .i64 0, .int .u64 0, .int .u64 0] 38))
                obtain ⟨ob2, oo2, e2, p70, p71, p72, p73⟩ := hS7.slot HX.out
                injection e2 with e2
                injection e2 with e2 e3
                subst e2 e3
                obtain ⟨ob2, oo2, e2, q70, q71, q72, q73⟩ := hS7.slot HY.out
                injection e2 with e2
                injection e2 with e2 e3
                subst e2 e3
                simp only at c0 c1 c2 c3 d0 d1 d2 d3 p00 p01 p02 p03 q00 q01 q02 q03 p10 p11 p12 p13 q10 q11 q12 q13 p20 p21 p22 p23 q20 q21 q22 q23 p30 p31 p32 p33 q30 q31 q32 q33 p40 p41 p42 p43 q40 q41 q42 q43 p50 p51 p52 p53 q50 q51 q52 q53 p60 p61 p62 p63 q60 q61 q62 q63 p70 p71 p72 p73 q70 q71 q72 q73
                go_upto_region 12 with (fail)
                go_cut [14, 15] (fun s14 s15 wx => TwoRet wr #[.int .i64 xd, .int .i64 xw, .int .u64 (xs : Int), .int .u64 (xe : Int)] #[.int .i64 yd, .int .i64 yw, .int .u64 (ys : Int), .int .u64 (ye : Int)] s14 s15 wx)
                case first =>
                  go_region
                  all_goals
                    go_wp2
                    go_meet
                    first
                      | exact two_xy wr _ _
                      | exact two_yx wr _ _
                case rest =>
                  obtain ⟨xb, yb, rfl, rfl, hbx, hby, hf3⟩ := hcut
                  have x1 := hbx.cell 1
                  simp at x1
                  have x2 := hbx.cell 2
                  simp at x2
                  have x3 := hbx.cell 3
                  simp at x3
                  have y1 := hby.cell 1
                  simp at y1
                  have y2 := hby.cell 2
                  simp at y2
                  have y3 := hby.cell 3
                  simp at y3
                  have HF := hide (hfr2.call hf3)
                  have HGO := hide (show (k ≠ j → ¬ Clash ⟨xd, xw, xs, xe⟩ ⟨yd, yw, ys, ye⟩) → ∀ (b : Nat) (y : RSl), b < j + 1 → sl[b]? = some y → k ≠ b → ¬ Clash ⟨xd, xw, xs, xe⟩ y from fun hn b y hb hy hne => by
                    by_cases e : b = j
                    · subst e
                      rw [HY.out] at hy
                      injection hy with hy
                      subst hy
                      exact hn hne
                    · exact HALL2.out b y (by omega) hy hne)
                  clear c0 c1 c2 c3 d0 d1 d2 d3 hbx hby
                  by_cases hkj : k = j
                  · have hb0 : ((k : Int) != (j : Int)) = false := by simp [hkj]
                    have HG2 := hide (HGO.out (fun h => absurd hkj h))
                    clear hkj
                    go_wp2
                    go_roundg (N - (j + 1))
                    case measure => rw [HM2.out]; omega
                    case rel => exact ⟨j + 1, by omega, by go_num, HG2.out, HF.out, rfl⟩
                  · have hb0 : ((k : Int) != (j : Int)) = true := by simp; omega
                    have hcl : Clash ⟨xd, xw, xs, xe⟩ ⟨yd, yw, ys, ye⟩ ↔ xw = yw ∧ xs < ye ∧ ys < xe := Iff.rfl
                    have HCL := hide hcl
                    have HKJ := hide hkj
                    clear hcl hkj
                    by_cases e1 : xw = yw
                    · have e1' : (xw == yw) = true := by simp [e1]
                      have E1 := hide e1
                      clear e1
                      by_cases e2 : xs < ye
                      · have e2' : (xs : Int) < (ye : Int) := by omega
                        by_cases e3 : ys < xe
                        · have e3' : (ys : Int) < (xe : Int) := by omega
                          have HNO := hide (verM_clash HC.out HSH.out (fun h => noclash_iff.1 h k j _ _ HX.out HY.out HKJ.out (HCL.out.2 ⟨E1.out, e2, e3⟩)))
                          clear e2 e3
                          go_wp2
                          go_ret
                          exact ⟨ret_int HNO.out.symm, hw2.call (hfr.call HF.out)⟩
                        · have e3' : ¬ (ys : Int) < (xe : Int) := by omega
                          have HG2 := hide (HGO.out (fun _ h => e3 (HCL.out.1 h).2.2))
                          clear e2 e3
                          go_wp2
                          go_roundg (N - (j + 1))
                          case measure => rw [HM2.out]; omega
                          case rel => exact ⟨j + 1, by omega, by go_num, HG2.out, HF.out, rfl⟩
                      · have e2' : ¬ (xs : Int) < (ye : Int) := by omega
                        have HG2 := hide (HGO.out (fun _ h => e2 (HCL.out.1 h).2.1))
                        clear e2
                        go_wp2
                        go_roundg (N - (j + 1))
                        case measure => rw [HM2.out]; omega
                        case rel => exact ⟨j + 1, by omega, by go_num, HG2.out, HF.out, rfl⟩
                    · have e1' : (xw == yw) = false := by simp [e1]
                      have HG2 := hide (HGO.out (fun _ h => e1 (HCL.out.1 h).1))
                      clear e1
                      go_wp2
                      go_roundg (N - (j + 1))
                      case measure => rw [HM2.out]; omega
                      case rel => exact ⟨j + 1, by omega, by go_num, HG2.out, HF.out, rfl⟩
              · have hjl : ¬ (j : Int) < (N : Int) := by omega
                have HG3 := hide (show ∀ (a b : Nat) (x y : RSl), a < k + 1 → sl[a]? = some x → sl[b]? = some y → a ≠ b → ¬ Clash x y from fun a b x' y' ha hx' hy' hne => by
                  by_cases e : a = k
                  · subst e
                    rw [HX.out] at hx'
                    injection hx' with hx'
                    subst hx'
                    have hbN : b < sl.length := (List.getElem?_eq_some_iff.1 hy').1
                    exact HALL2.out b y' (by have := HLEN.out; omega) hy' hne
                  · exact HALL.out a b x' y' (by omega) hx' hy' hne)
                go_wp2
                go_roundg (N - (k + 1))
                case measure => rw [HM.out]; omega
                case rel => exact ⟨k + 1, by omega, by go_num, HG3.out, hfr.call hfr2, rfl⟩
          · have hkl : ¬ (k : Int) < (N : Int) := by omega
            have hnc : NoClash sl := noclash_iff.2 fun a b x y ha hb => HALL.out a b x y (by have := (List.getElem?_eq_some_iff.1 ha).1; have := HLEN.out; omega) ha hb
            have HNC := hide hnc
            clear hnc
            have hw3 := hw2.call hfr
            clear HALL HM hfr
            go_wp2
            go_loopg [16] l.length (fun m i wq => VrRel3 wr sl l m i wq)
            case atStart => exact ⟨0, by omega, rfl, by simp, Fr.refl _ _, rfl⟩
            case round =>
              clear hkl hk hlt
              obtain ⟨k, hk, rfl, hdp, hfr, hmm⟩ := hrel
              have HM := hide hmm
              have HDP := hide hdp
              have hw4 := hw3.call hfr
              clear hmm hdp
              by_cases hlt : k < l.length
              · obtain ⟨q, hq⟩ : ∃ q, l[k]? = some q := ⟨_, List.getElem?_eq_getElem hlt⟩
                have hkl : (k : Int) < (l.length : Int) := by omega
                have HQ := hide hq
                clear hq
                go_wp2
                go_loopg [17] N (fun m i wi => VrRel4 wr sl N q m i wi)
                case atStart => exact ⟨0, by omega, rfl, fun a x y h => absurd h (by omega), Fr.refl _ _, rfl⟩
                case round =>
                  obtain ⟨i, hi, rfl, hall, hfi, hmm⟩ := hrel
                  have HM2 := hide hmm
                  have HALL := hide hall
                  have hw5 := hw4.call hfi
                  clear hmm hall
                  by_cases hlti : i < N
                  · obtain ⟨x, hx⟩ : ∃ x, sl[i]? = some x := ⟨_, List.getElem?_eq_getElem (by have := HLEN.out; omega)⟩
                    have hil : (i : Int) < (N : Int) := by omega
                    have his : (i : Int) < (sl.length : Int) := by rw [HLEN.out]; omega
                    have HX := hide hx
                    clear hx
                    go_wp2
                    go_loopg [18] N (fun m i wj => VrRel5 wr sl N q x m i wj)
                    case atStart => exact ⟨0, by omega, rfl, fun a y h => absurd h (by omega), Fr.refl _ _, rfl⟩
                    case round =>
                      obtain ⟨j, hj, rfl, hall2, hfj, hmm⟩ := hrel
                      have HM3 := hide hmm
                      have HALL2 := hide hall2
                      have hw6 := hw5.call hfj
                      clear hmm hall2
                      by_cases hltj : j < N
                      · obtain ⟨y, hy⟩ : ∃ y, sl[j]? = some y := ⟨_, List.getElem?_eq_getElem (by have := HLEN.out; omega)⟩
                        have hjl : (j : Int) < (N : Int) := by omega
                        have hjs : (j : Int) < (sl.length : Int) := by rw [HLEN.out]; omega
                        have HY := hide hy
                        clear hy
                        obtain ⟨ob, oo, rfl, c0, c1, c2, c3⟩ := (HS.out.fr0 hw6).slot HX.out
                        obtain ⟨ob2, oo2, e2, d0, d1, d2, d3⟩ := (HS.out.fr0 hw6).slot HY.out
                        injection e2 with e2
                        injection e2 with e2 e3
                        subst e2 e3
                        obtain ⟨lb, lo, hA, l0, l1⟩ := (HR.out.fr0 hw6).link HQ.out
                        subst hA
                        obtain ⟨xd, xw, xs, xe⟩ := x
                        obtain ⟨yd, yw, ys, ye⟩ := y
                        obtain ⟨qc, qs⟩ := q
                        simp only at c0 c2 d0 d3 l0 l1
                        clear c1 c3 d1 d2
                        have HGO := hide (show (xd = qc → yd = qs → ye ≤ xs) → ∀ (b : Nat) (y : RSl), b < j + 1 → sl[b]? = some y → xd = qc → y.d = qs → y.e ≤ xs from fun hn b y hb hy e1 e2 => by
                          by_cases e : b = j
                          · subst e
                            rw [HY.out] at hy
                            injection hy with hy
                            subst hy
                            exact hn e1 e2
                          · exact HALL2.out b y (by omega) hy e1 e2)
                        by_cases t1 : xd = qc
                        · have t1' : (xd == qc) = true := by simp [t1]
                          have T1 := hide t1
                          clear t1
                          by_cases t2 : yd = qs
                          · have t2' : (yd == qs) = true := by simp [t2]
                            have T2 := hide t2
                            clear t2
                            by_cases t3 : xs < ye
                            · have t3' : (xs : Int) < (ye : Int) := by omega
                              have t4' : decide (xs < ye) = true := by simp; omega
                              have t5' : decide ((xs : Int) < (ye : Int)) = true := by simp; omega
                              have HNO := hide (verM_dep HC.out HSH.out HNC.out (fun h => by
                                have h1 : ye ≤ xs := h _ (List.mem_of_getElem? HQ.out) _ (List.mem_of_getElem? HX.out) _ (List.mem_of_getElem? HY.out) T1.out T2.out
                                omega))
                              clear t3
                              go_wp2
                              go_quiet (fail)
                              go_wp2
                              go_ret
                              exact ⟨ret_int HNO.out.symm, hw6.drewN _⟩
                            · have t3' : ¬ (xs : Int) < (ye : Int) := by omega
                              have t4' : decide (xs < ye) = false := by simp; omega
                              have t5' : decide ((xs : Int) < (ye : Int)) = false := by simp; omega
                              have HG7 := hide (HGO.out (fun e1 e2 => by omega))
                              go_wp2
                              go_quiet (fail)
                              go_wp2
                              go_roundg (N - (j + 1))
                              case measure => rw [HM3.out]; omega
                              case rel => exact ⟨j + 1, by omega, by go_num, HG7.out, hfj.drewN _, rfl⟩
                          · have t2' : (yd == qs) = false := by simp [t2]
                            have HG7 := hide (HGO.out (fun e1 e2 => absurd e2 t2))
                            go_wp2
                            go_quiet (fail)
                            go_wp2
                            go_roundg (N - (j + 1))
                            case measure => rw [HM3.out]; omega
                            case rel => exact ⟨j + 1, by omega, by go_num, HG7.out, hfj.drewN _, rfl⟩
                        · have t1' : (xd == qc) = false := by simp [t1]
                          have HG7 := hide (HGO.out (fun e1 e2 => absurd e1 t1))
                          go_wp2
                          go_quiet (fail)
                          go_wp2
                          go_roundg (N - (j + 1))
                          case measure => rw [HM3.out]; omega
                          case rel => exact ⟨j + 1, by omega, by go_num, HG7.out, hfj.drewN _, rfl⟩
                      · have hjl : ¬ (j : Int) < (N : Int) := by omega
                        have HG5 := hide (show ∀ (a : Nat) (x y : RSl), a < i + 1 → sl[a]? = some x → y ∈ sl → x.d = q.1 → y.d = q.2 → y.e ≤ x.s from fun a x' y' ha hx' hy' e1 e2 => by
                          by_cases e : a = i
                          · subst e
                            rw [HX.out] at hx'
                            injection hx' with hx'
                            subst hx'
                            obtain ⟨b, hb⟩ := List.getElem?_of_mem hy'
                            have hbN := (List.getElem?_eq_some_iff.1 hb).1
                            exact HALL2.out b y' (by have := HLEN.out; omega) hb e1 e2
                          · exact HALL.out a x' y' (by omega) hx' hy' e1 e2)
                        have HFJ := hide (hfi.call hfj)
                        go_wp2
                        go_roundg (N - (i + 1))
                        case measure => rw [HM2.out]; omega
                        case rel => exact ⟨i + 1, by omega, by go_num, HG5.out, HFJ.out, rfl⟩
                  · have hil : ¬ (i : Int) < (N : Int) := by omega
                    have HG6 := hide (show DepOk sl q from fun x hx y hy e1 e2 => by
                      obtain ⟨a, ha⟩ := List.getElem?_of_mem hx
                      have haN := (List.getElem?_eq_some_iff.1 ha).1
                      exact HALL.out a x y (by have := HLEN.out; omega) ha hy e1 e2)
                    have HFI := hide (hfr.call hfi)
                    go_wp2
                    go_roundg (l.length - (k + 1))
                    case measure => rw [HM.out]; omega
                    case rel =>
                      refine ⟨k + 1, by omega, by go_num, fun z hz => ?_, HFI.out, rfl⟩
                      rw [take_succ_some HQ.out] at hz
                      rcases List.mem_append.1 hz with h | h
                      · exact HDP.out z h
                      · rw [List.mem_singleton.1 h]; exact HG6.out
              · have hkl : ¬ (k : Int) < (l.length : Int) := by omega
                have hdp := HDP.out
                rw [List.take_of_length_le (by omega)] at hdp
                have HNO := hide (verM_ok HC.out HSH.out HNC.out hdp)
                clear hdp
                go_wp2
                go_ret
                exact ⟨ret_int HNO.out.symm, hw4⟩
      · have HV := hide (verM_shape HC.out hsh)
        rw [decide_eq_false hsh]
        clear hsh
        go_wp2
        go_ret
        exact ⟨ret_int HV.out.symm, hf1.call hf2⟩
  · have HV := hide (verM_rin (sl := sl) hr0)
    have hne : (rinM n l dur W != 0) = true := by simp [hr0]
    clear hr0
    go_wp2
    go_ret
    exact ⟨ret_int HV.out.symm, hf1⟩
end Go.Proofs.Ytinengemeppefaa

