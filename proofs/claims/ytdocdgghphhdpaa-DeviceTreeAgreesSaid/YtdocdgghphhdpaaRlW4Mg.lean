/- Walks: rails.New. -/
import Derived.Test.YtdocdgghphhdpaaRlW3Mg
import Derived.Test.YtdocdgghphhdpaaMgDeviceTree8
import Derived.Test.YtdocdgghphhdpaaMgDeviceTree11
import Derived.Deep.RegionHeld3
namespace Go.Proofs.Ytdocdgghphhdpaa
open Go.RowKit

def railOkD (n : Nat) (x : RailD) : Prop := -1 ≤ x.sup ∧ x.sup < (n : Int) ∧ x.up ≤ 1048576 ∧ x.dn ≤ 1048576
instance (n : Nat) (x : RailD) : Decidable (railOkD n x) := by unfold railOkD; infer_instance
def railsOkB (R : Nat → RailD) (n : Nat) : Bool := (List.range n).all fun i => decide (railOkD n (R i))
theorem railsOkB_yes {R : Nat → RailD} {n : Nat} (h : ∀ i, i < n → railOkD n (R i)) : railsOkB R n = true := List.all_eq_true.2 fun i hi => decide_eq_true (h i (List.mem_range.1 hi))
theorem railsOkB_no {R : Nat → RailD} {n i : Nat} (hi : i < n) (h : ¬ railOkD n (R i)) : railsOkB R n = false := by
  cases e : railsOkB R n with
  | false => rfl
  | true => exact absurd (of_decide_eq_true (List.all_eq_true.1 e i (List.mem_range.2 hi))) h
def rlLinks (R : Nat → RailD) : Nat → List (Int × Int)
  | 0 => []
  | i + 1 => if 0 ≤ (R i).sup then rlLinks R i ++ [((i : Int), (R i).sup)] else rlLinks R i
theorem rlLinks_len (R : Nat → RailD) : ∀ i, (rlLinks R i).length ≤ i
  | 0 => Nat.le_refl _
  | i + 1 => by
    have := rlLinks_len R i
    rw [rlLinks]
    split
    · simp; omega
    · omega
def rnewM (R : Nat → RailD) (n : Nat) : Int := if 64 < n then 1 else if railsOkB R n = true then checkM (n : Int) (rlLinks R n) else 1
def rsz : RSt := ⟨fun _ => 0, fun _ => 0, 0⟩
def RlNew (P : RP) (base : Nat) : Prop := base ≤ P.b ∧ base ≤ P.gB ∧ base ≤ P.gC ∧ ∀ ad, P.A = some ad → base ≤ ad.block
def RNewRet (w : World) (R : Nat → RailD) (n : Nat) (e : Ending) (w' : World) : Prop :=
  Fr [] w w' ∧ ((rnewM R n ≠ 0 ∧ e = .returned (.tuple #[.pointer none, .int .i64 (rnewM R n)])) ∨ (rnewM R n = 0 ∧ ∃ P : RP, e = .returned (.tuple #[.pointer (some ⟨P.b, 0, none⟩), .int .i64 0]) ∧ P.n = n ∧ RlAt w' P R rsz ∧ RlNew P w.heap.size))
def RnRel (w : World) (R : Nat → RailD) (n m : Nat) (v i : Value) (wr : World) : Prop :=
  ∃ k : Nat, k ≤ n ∧ i = .int .i64 (k : Int) ∧ (∀ j, j < k → railOkD n (R j)) ∧ wr.ownsRow w.heap.size 76 2 v (rlLinks R k).length (pcs (rlLinks R k)) ∧ Fr [] w wr ∧ m = n - k
theorem ru64_info : (Try.prog.info? 33).map (fun i => (i.zero, i.size, i.bytes)) = some (some (.int .u64 0), 1, 8) := by kernel_rfl
theorem rmake_u64s (n c : Nat) (hnc : n ≤ c) (hc : c ≤ 1000000) (w : World) : (Instr.makeSlice 82 (.int .i64 (n : Int)) (.int .i64 (c : Int))).run Try.prog w = .ok (.slice (some ⟨w.heap.size, 0, none⟩) n c) (w.alloc (.cells (Array.replicate c (.int .u64 0)) 33)) :=
  run_make_one _ _ _ 8 Try.underlying82 ru64_info rfl n c hnc (by omega) hc w
theorem rBlk_new' {w : World} {t : TypeId} {cs : Array Value} {g : Nat} (hg : g = w.heap.size) : Blk (w.alloc (.cells cs t)) g t cs := by
  subst hg
  exact Blk.new w t cs
theorem rFA_at {α : Type} {X w : World} {g n : Nat} {t : TypeId} {e : α → Value} {x : α} (h : Fr [] (X.alloc (.cells (Array.replicate n (e x)) t)) w) (hg : g = X.heap.size) : FA w g t e n (fun _ => x) := by
  subst hg
  exact (FA.new X t e x n).fr0 h
theorem link_info4 : (Try.prog.info? 76).map (fun i => (i.zero, i.size, i.bytes)) = some (some (.agg #[.int .i64 0, .int .i64 0]), 2, 16) := by kernel_rfl
set_option maxHeartbeats 8000000 in
set_option maxRecDepth 100000 in
theorem rnew_any (A : Option Addr) (cp n : Nat) (R : Nat → RailD) (w : World) (hr : Row w A (rlcs R n)) (hA : A = none → cp = 0 ∧ n = 0) (hn : n ≤ maxLen) :
    Calls Try.prog 58 #[.slice A n cp] w (RNewRet w R n) := by
  unfold maxLen at hn
  obtain ⟨i0, hi0, hz0, hz1, hz2⟩ := info_parts link_info4
  have HI := hide (And.intro hi0 (And.intro hz0 (And.intro hz1 hz2)))
  have HR := hide hr
  have HA := hide hA
  clear hr hA hi0 hz0 hz1 hz2
  by_cases h64 : 64 < n
  · have hb : decide ((64 : Int) < (n : Int)) = true := decide_eq_true (by omega)
    have hbi : (64 : Int) < (n : Int) := by omega
    have HM : Hid (rnewM R n = 1) := hide (by rw [rnewM, if_pos h64])
    clear h64
    go_enter Try.func58, Try.ntmps58
    go_wp2
    go_ret2
    exact ⟨Fr.refl _ _, .inl ⟨by rw [HM.out]; decide, by rw [HM.out]; rfl⟩⟩
  have hb : decide ((64 : Int) < (n : Int)) = false := decide_eq_false (by omega)
  have hbi : ¬ (64 : Int) < (n : Int) := by omega
  have hn64 : n ≤ 64 := by omega
  have HM0 : Hid (rnewM R n = if railsOkB R n = true then checkM (n : Int) (rlLinks R n) else 1) := hide (by rw [rnewM, if_neg h64])
  clear h64
  go_enter Try.func58, Try.ntmps58
  go_wp2
  go_loopg [4, 13] n (fun m v i wr => RnRel w R n m v i wr)
  case atStart => exact ⟨0, by omega, rfl, fun j hj => by omega, own_nil _ _ _ _, Fr.refl _ _, rfl⟩
  case round =>
    obtain ⟨k, hk, rfl, hall, hown, hfr, hmm⟩ := hrel
    obtain ⟨A4, c4, rfl, -, -, -⟩ := own_slice hown
    have HOWN := hide hown
    have HALL := hide hall
    have HMM := hide hmm
    have HLN := hide (show rlLinks R (k + 1) = if 0 ≤ (R k).sup then rlLinks R k ++ [((k : Int), (R k).sup)] else rlLinks R k from rfl)
    have hll := rlLinks_len R k
    clear hown hall hmm
    by_cases hkn : k < n
    · have hki : (k : Int) < (n : Int) := by omega
      obtain ⟨ob, oo, rfl, hc⟩ := Row.el (f := fun i => rlc (R i)) (l := List.range n) (i := k) (a := k) (fun i => rlc_len (R i)) (by omega) (HR.out.fr0 hfr) (by simp [hkn])
      have r0 : wr.cell? ⟨ob, oo + k * 3, none⟩ = some (.int .i64 (R k).sup) := hc 0 _ rfl
      have r1 : wr.cell? ⟨ob, oo + k * 3 + 1, none⟩ = some (.int .u64 ((R k).up : Int)) := hc 1 _ rfl
      have r2 : wr.cell? ⟨ob, oo + k * 3 + 2, none⟩ = some (.int .u64 ((R k).dn : Int)) := hc 2 _ rfl
      have HST : Hid (railOkD n (R k) → ∀ j, j < k + 1 → railOkD n (R j)) := hide (fun h j hj => by
        by_cases e : j = k
        · subst e; exact h
        · exact HALL.out j (by omega))
      have HNO : Hid (¬ railOkD n (R k) → rnewM R n = 1) := hide (fun h => by rw [HM0.out, railsOkB_no hkn h]; rfl)
      have HOKD := hide (show railOkD n (R k) ↔ (-1 ≤ (R k).sup ∧ (R k).sup < (n : Int) ∧ (R k).up ≤ 1048576 ∧ (R k).dn ≤ 1048576) from Iff.rfl)
      generalize hL : rlLinks R k = L0 at HOWN HLN hll ⊢
      generalize (R k).sup = sp at HLN HOKD r0
      generalize (R k).up = u1 at HOKD r1
      generalize (R k).dn = u2 at HOKD r2
      have hfa : Fr [] wr (wr.alloc (.cells #[.int .i64 sp, .int .u64 (u1 : Int), .int .u64 (u2 : Int)] 49)) := (Fr.refl _ _).alloc _
      have hxb := Blk.new wr 49 #[.int .i64 sp, .int .u64 (u1 : Int), .int .u64 (u2 : Int)]
      have x0 := hxb.cell 0
      have x1 := hxb.cell 1
      have x2 := hxb.cell 2
      simp only [List.getElem?_toArray, List.getElem?_cons_zero, List.getElem?_cons_succ] at x0 x1 x2
      have HOW2 := hide (own_fr HOWN.out hfa (fun _ _ => by simp))
      clear hc hxb hL
      go_upto_region 7 with (fail)
      have hfr2 := hfr.call hfa
      clear r0 r1 r2
      generalize wr.alloc (.cells #[.int .i64 sp, .int .u64 (u1 : Int), .int .u64 (u2 : Int)] 49) = w2 at hfr2 x0 x1 x2 HOW2 ⊢
      clear hfa
      by_cases hg : -1 ≤ sp ∧ sp < (n : Int) ∧ u1 ≤ 1048576 ∧ u2 ≤ 1048576
      · have HG := hide (HST.out (HOKD.out.2 hg))
        have b1 : decide (sp < -1) = false := decide_eq_false (by omega)
        have b2 : decide ((n : Int) ≤ sp) = false := decide_eq_false (by omega)
        have b3 : decide ((1048576 : Int) < (u1 : Int)) = false := decide_eq_false (by omega)
        have b4 : decide ((1048576 : Int) < (u2 : Int)) = false := decide_eq_false (by omega)
        have hs2 : w.heap.size ≤ w2.heap.size + 1 := by have := hfr2.size; omega
        clear HOKD HST HNO hg
        by_cases h0 : 0 ≤ sp
        · have HL2 := HLN.out
          rw [if_pos h0] at HL2
          have HL3 := hide HL2
          clear HL2 HLN
          go_upto_region 11 with (first
            | (at_builtin
               refine wpList_append_row _ rfl (.tmp 41) (.tmp 46) _ rfl w.heap.size 76 i0 (.agg #[.int .i64 0, .int .i64 0]) 2 16 Try.underlying74 HI.out.1 HI.out.2.1 HI.out.2.2.1 HI.out.2.2.2 rfl (by omega) (.slice A4 L0.length c4) L0.length (pcs L0) rfl
                 (own_fr HOW2.out ((Fr.refl [] _).alloc _) (fun _ _ => by simp)) (some ⟨w2.heap.size, 0, none⟩) 1 1 [.int .i64 (k : Int), .int .i64 sp] rfl rfl (row_lit w2 _ _ rfl) (by intro u hu; simp at hu; rcases hu with rfl | rfl <;> rfl) (by simp only [maxLen]; omega) (by omega) (by simpa using hs2) ?_
               intro v3 w3 hown3 hg3 hat3))
          obtain ⟨A3, c3, rfl, -, -, -⟩ := own_slice hown3
          have hf23 : Fr (Value.slice A4 L0.length c4).ownBlock.toList w2 w3 := ((Fr.refl _ w2).alloc _).trans (Fr.of_grown hg3)
          have hf03 : Fr [] w w3 := hfr2.step hf23 (fun y hy => .inr (own_block HOW2.out (by simpa using hy)).1)
          have HOW3 := hide hown3
          clear hown3 hg3 hat3 hf23 x0 x1 x2 hs2
          go_wp2
          go_roundg (n - (k + 1))
          case measure => rw [HMM.out]; omega
          case rel => exact ⟨k + 1, by omega, by go_num, HG.out, by rw [HL3.out, pcs_snoc, List.length_append]; exact HOW3.out, hf03, rfl⟩
        · have HL2 := HLN.out
          rw [if_neg h0] at HL2
          have HL3 := hide HL2
          clear HL2 HLN
          go_wp2
          go_roundg (n - (k + 1))
          case measure => rw [HMM.out]; omega
          case rel => exact ⟨k + 1, by omega, by go_num, HG.out, by rw [HL3.out]; exact HOW2.out, hfr2, rfl⟩
      · have HNE : Hid (rnewM R n = 1) := hide (HNO.out (fun h => hg (HOKD.out.1 h)))
        have hcase : (decide (sp < -1) = true) ∨ (decide (sp < -1) = false ∧ decide ((n : Int) ≤ sp) = true) ∨ (decide (sp < -1) = false ∧ decide ((n : Int) ≤ sp) = false ∧ decide ((1048576 : Int) < (u1 : Int)) = true) ∨ (decide (sp < -1) = false ∧ decide ((n : Int) ≤ sp) = false ∧ decide ((1048576 : Int) < (u1 : Int)) = false ∧ decide ((1048576 : Int) < (u2 : Int)) = true) := by
          simp only [decide_eq_true_eq, decide_eq_false_iff_not]
          omega
        clear HOKD HST HNO hg HLN
        rcases hcase with b1 | ⟨b1, b2⟩ | ⟨b1, b2, b3⟩ | ⟨b1, b2, b3, b4⟩
        all_goals
          go_wp2
          go_ret2
          exact ⟨hfr2, .inl ⟨by rw [HNE.out]; decide, by rw [HNE.out]; rfl⟩⟩
    · have hke : k = n := by omega
      subst hke
      have hki : ¬ (k : Int) < (k : Int) := by omega
      have HM1 : Hid (rnewM R k = checkM (k : Int) (rlLinks R k)) := hide (by rw [HM0.out, railsOkB_yes HALL.out]; rfl)
      clear HLN
      generalize rlLinks R k = L0 at HOWN HM1 hll ⊢
      have hrow := Row.of_own HOWN.out
      have HROW := hide hrow
      clear hrow
      go_wp2_with fail
      refine (check_any24 (k : Int) A4 c4 L0 wr HROW.out (by omega)).mono ?_
      rintro e w2 ⟨rfl, hf2⟩
      have hf02 := hfr.call hf2
      generalize checkM (k : Int) L0 = ce at HM1 ⊢
      by_cases hce : ce = 0
      · subst hce
        have hb5 : ((0 : Int) != 0) = false := rfl
        have HR2 := hide (HR.out.fr0 hf02)
        have m1 := make_ints k k (Nat.le_refl _) (by omega)
        have m2 := rmake_u64s k k (Nat.le_refl _) (by omega)
        have hsz02 := hf02.size
        go_upto_region 15 with (fail)
        go_region_held3 (fun _ => True) (exact trivial) (first | (go_at_call 103; refine (clone_rails A cp k R _ (HR2.out.fr0 (by repeat (first | exact Fr.refl _ _ | refine Fr.drewN ?_ _ | refine Fr.drew ?_ | refine Fr.alloc ?_ _))) (by omega) HA.out).mono ?_; rintro e w3 ⟨v3, rfl, hown3, hf3⟩; obtain ⟨A3, c3, rfl, -, hrow3, hlow3⟩ := own_slice hown3))
        all_goals
          clear m1 m2
          have hsz3 := hf3.size
          simp at hsz3 hlow3
          go_wp2
          go_ret2
          have HLO3 := hide hlow3
          refine ⟨hf02.call ?fr, .inr ⟨HM1.out, ⟨_, _, _, _, _, _, _, _⟩, rfl, rfl, ⟨rBlk_new' (by simp), hrow3.fr0 ?row, ?cnt, ?dn, ?off, ?low, hn64⟩, ?new⟩⟩
          case fr => repeat (first | exact Fr.refl _ _ | exact hf3 | refine Fr.drewN ?_ _ | refine Fr.drew ?_ | refine Fr.call ?_ hf3 | refine Fr.alloc ?_ _)
          case row => repeat (first | exact Fr.refl _ _ | exact hf3 | refine Fr.drewN ?_ _ | refine Fr.drew ?_ | refine Fr.call ?_ hf3 | refine Fr.alloc ?_ _)
          case cnt =>
            apply rFA_at (e := nv) (x := 0)
            case h => repeat (first | exact Fr.refl _ _ | refine Fr.drewN ?_ _ | refine Fr.drew ?_ | refine Fr.call ?_ hf3 | refine Fr.alloc ?_ _)
            case hg => simp
          case dn =>
            apply rFA_at (e := rv) (x := 0)
            case h => repeat (first | exact Fr.refl _ _ | refine Fr.drewN ?_ _ | refine Fr.drew ?_ | refine Fr.call ?_ hf3 | refine Fr.alloc ?_ _)
            case hg => simp
          case off =>
            intro ad e hm
            have := HLO3.out ad e
            simp at hm
            try simp at this
            omega
          case low =>
            intro ad e
            have := HLO3.out ad e
            try simp at this
            try simp
            omega
          case new =>
            refine ⟨?_, ?_, ?_, fun ad e => ?_⟩
            · simp; omega
            · simp; omega
            · simp; omega
            · have := HLO3.out ad e
              try simp at this
              omega
      · have hb5 : (ce != 0) = true := by simp [hce]
        go_wp2
        go_ret2
        exact ⟨hf02, .inl ⟨by rw [HM1.out]; exact hce, by rw [HM1.out]; rfl⟩⟩
end Go.Proofs.Ytdocdgghphhdpaa

