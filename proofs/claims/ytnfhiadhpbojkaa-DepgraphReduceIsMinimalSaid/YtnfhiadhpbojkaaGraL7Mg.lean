/- The law DepgraphClosuresAgree, walked. (The chain of calls is written by a program.) -/
import Derived.Test.YtnfhiadhpbojkaaGraL1Mg
import Derived.Test.YtnfhiadhpbojkaaMgDepgraphMinimal9
namespace Go.Proofs.Ytnfhiadhpbojkaa
open Go.RowKit

theorem closM_len (cons : Bool) (n : Int) (l : List (Int × Int)) (of : List Int) : (closM cons n l of).1.length ≤ 128 := by
  by_cases hb : basicM n l = 0
  · obtain ⟨hok, hnd⟩ := basicM_zero hb
    obtain ⟨N, rfl⟩ := Int.eq_ofNat_of_zero_le hok.1
    have hN : N ≤ 128 := by have := hok.2.1; omega
    by_cases ho : ∀ x ∈ of, 0 ≤ x ∧ x < (N : Int)
    · rw [closM_ok hb ho]
      have := List.length_filter_le (rchB N (ori cons (toNs l)) (of.map Int.toNat)) (List.range N)
      simp at this ⊢
      omega
    · rw [closM_out hb ho]
      simp
  · rw [closM_bad hb]
    simp
/-- The given nodes, brought into range. -/
def someM (N : Nat) (of : List Int) : List Int := of.map fun x => ((umod x N : Nat) : Int)
theorem someM_length (N : Nat) (of : List Int) : (someM N of).length = of.length := by simp [someM]
theorem someM_snoc (N : Nat) (of : List Int) (x : Int) : someM N (of ++ [x]) = someM N of ++ [((umod x N : Nat) : Int)] := by simp [someM]
def SmRel (w1 : World) (N : Nat) (of : List Int) (m : Nat) (v i : Value) (wr : World) : Prop :=
  ∃ k : Nat, k ≤ of.length ∧ i = .int .i64 k ∧ wr.ownsRow w1.heap.size 3 1 v k ((someM N (of.take k)).map (Value.int .i64)) ∧ Fr [] w1 wr ∧ m = of.length - k

set_option maxHeartbeats 8000000 in
set_option maxRecDepth 100000 in
theorem closuresAgree_walk (n : Int) (A B : Option Addr) (cp cq : Nat) (raw : List (Int × Int)) (of : List Int) (w : World) (hr : Row w A (pcs raw)) (hb : Row w B (of.map (Value.int .i64))) (hm : raw.length ≤ maxLen) (ho : of.length ≤ maxLen) :
    Calls Try.prog 10 #[.int .i64 n, .slice A raw.length cp, .slice B of.length cq] w fun e w' => e = .returned (.bool true) ∧ Fr [] w w' := by
  unfold maxLen at hm ho
  obtain ⟨i0, hi0, hz0, hz1, hz2⟩ := info_parts int_info1
  have HI := hide (And.intro hi0 (And.intro hz0 (And.intro hz1 hz2)))
  have HR := hide hr
  have HB := hide hb
  clear hr hb hi0 hz0 hz1 hz2
  by_cases h40 : 40 < raw.length ∨ 20 < of.length
  · have hb : (decide ((40 : Int) < (raw.length : Int)) = true) ∨ (decide ((40 : Int) < (raw.length : Int)) = false ∧ decide ((20 : Int) < (of.length : Int)) = true) := by simp; omega
    clear h40
    rcases hb with hb | ⟨hb, hb2⟩
    all_goals
      go_enter Try.func10, Try.ntmps10
      go_wp2_with fail
      refine (awake24_any w).mono ?_
      rintro e w1 ⟨rfl, hfr⟩
      go_wp2
      go_ret
      exact ⟨rfl, hfr⟩
  · have hb : decide ((40 : Int) < (raw.length : Int)) = false := by simp; omega
    have hb2 : decide ((20 : Int) < (of.length : Int)) = false := by simp; omega
    have h40' : raw.length ≤ 40 := by omega
    have h20' : of.length ≤ 20 := by omega
    clear h40 hm ho
    go_enter Try.func10, Try.ntmps10
    go_wp2_with fail
    refine (graph_any n A cp raw false w HR.out (by omega)).mono ?_
    rintro e w1 ⟨v1, rfl, hown1, hf1⟩
    obtain ⟨A1, c1, rfl, -, hrow1, -⟩ := own_slice hown1
    have hgl := (graphM_ok n raw false).len
    have hN := gNodes_lt n
    generalize graphM n raw false = L at hgl hrow1 ⊢
    generalize gNodes n = N at hN ⊢
    have hll : (ofNs L).length = L.length := ofNs_length L
    have hgl' : (ofNs L).length ≤ 40 := by omega
    have HG := hide hrow1
    clear hrow1 hown1
    have hfin : ∀ (wr : World) (v9 : Value) (sm : List Int), sm.length ≤ 20 → wr.ownsRow w1.heap.size 3 1 v9 sm.length (sm.map (Value.int .i64)) → Fr [] w1 wr → True := fun _ _ _ _ _ _ => trivial
    clear hfin
    go_wp2
    go_loopg [9, 10] of.length (fun m v i wr => SmRel w1 N of m v i wr)
    case atStart => exact ⟨0, by omega, rfl, own_nil _ _ _ _, Fr.refl _ _, rfl⟩
    case round =>
      obtain ⟨k, hk, rfl, hown, hfr, hmm⟩ := hrel
      obtain ⟨AS, cs, rfl, -, hrowS, -⟩ := own_slice hown
      have HM := hide hmm
      clear hmm
      by_cases hlt : k < of.length ∧ 0 < N
      · obtain ⟨hlt, hN0⟩ := hlt
        have hkl : (k : Int) < (of.length : Int) := by omega
        have hNI : (0 : Int) < (N : Int) := by omega
        obtain ⟨x, hx⟩ : ∃ x, of[k]? = some x := ⟨_, List.getElem?_eq_getElem hlt⟩
        obtain ⟨ob, oo, e, c1'⟩ := (HB.out.fr0 (hf1.call hfr)).int hx
        subst e
        have hsn : someM N (of.take (k + 1)) = someM N (of.take k) ++ [((umod x N : Nat) : Int)] := by rw [take_succ_some hx, someM_snoc]
        have HOWN := hide hown
        have HSN := hide hsn
        clear hx hown hsn hrowS
        go_wp2_with fail
        refine (mod_any x N _ hN0 (by omega)).mono ?_
        rintro e w2 ⟨rfl, rfl⟩
        generalize umod x N = y at HSN ⊢
        have hsz : w1.heap.size ≤ wr.heap.size + 1 := by have := hfr.size; omega
        go_wp2_with (first
          | (at_builtin
             refine wpList_append_row _ rfl (.tmp 44) (.tmp 51) _ rfl w1.heap.size 3 i0 (.int .i64 0) 1 8 Try.underlying26 HI.out.1 HI.out.2.1 HI.out.2.2.1 HI.out.2.2.2 rfl (by omega) (.slice AS k cs) k ((someM N (of.take k)).map (Value.int .i64)) rfl
               (own_fr HOWN.out ((Fr.refl [] _).alloc _) (fun _ _ => by simp)) (some ⟨wr.heap.size, 0, none⟩) 1 1 [.int .i64 (y : Int)] rfl rfl (row_one wr _ _) (by intro u hu; simp at hu; subst hu; rfl) (by simp only [maxLen]; omega) (by omega) (by simpa using hsz) ?_
             intro v9 w9 hown9 hg9 hat9))
        have hf9 : Fr [] w1 w9 := (hfr.alloc _).grown hg9 (fun y hy => .inr (own_block HOWN.out hy).1)
        go_roundg (of.length - (k + 1))
        case measure => rw [HM.out]; omega
        case rel => exact ⟨k + 1, by omega, by go_num, by rw [HSN.out, List.map_append]; exact hown9, hf9, rfl⟩
      · obtain ⟨sm, hsm⟩ : ∃ sm, sm = someM N (of.take k) := ⟨_, rfl⟩
        have hsl : sm.length = k := by rw [hsm, someM_length, List.length_take]; omega
        rw [← hsm] at hrowS
        have hx : (k : Int) = (of.length : Int) ∨ (N : Int) = 0 := by omega
        have hk20 : sm.length ≤ 20 := by omega
        have HS := hide hrowS
        have hw2 := hf1.call hfr
        have HL := hide (HG.out.fr0 hfr)
        clear hown hrowS hsm HG HM hlt
        subst hsl
        obtain ⟨w2, rfl⟩ : ∃ w2 : World, w2 = wr := ⟨_, rfl⟩
        have g2 : Fr [] w2 w2 := Fr.refl _ _
        have hw : (of.length : Int) ≤ (sm.length : Int) ∨ ((sm.length : Int) < (of.length : Int) ∧ (N : Int) ≤ 0) := by omega
        clear hx
        rcases hw with hw | ⟨hw, hw'⟩
        all_goals
          have hq := suppliers_any (N : Int) A1 AS c1 cs (ofNs L) sm w2 (HL.out.fr0 g2) (HS.out.fr0 g2) (by omega) (by omega)
          rw [hll] at hq
          go_wp2_with fail
          refine hq.mono ?_
          clear hq
          rintro e w3 ⟨v3, rfl, hown, hf3⟩
          obtain ⟨A3', c3', rfl, -, hrow, -⟩ := own_slice hown
          have H3 := hide hrow
          have g3 := g2.trans hf3
          clear hown hrow
          have hq := rsuppliers_any (N : Int) A1 AS c1 cs (ofNs L) sm w3 (HL.out.fr0 g3) (HS.out.fr0 g3) (by omega) (by omega)
          rw [hll] at hq
          go_wp2_with fail
          refine hq.mono ?_
          clear hq
          rintro e w4 ⟨v4, rfl, hown, hf4⟩
          obtain ⟨A4', c4', rfl, -, hrow, -⟩ := own_slice hown
          have H4 := hide hrow
          have g4 := g3.trans hf4
          clear hown hrow
          have hq := consumers_any (N : Int) A1 AS c1 cs (ofNs L) sm w4 (HL.out.fr0 g4) (HS.out.fr0 g4) (by omega) (by omega)
          rw [hll] at hq
          go_wp2_with fail
          refine hq.mono ?_
          clear hq
          rintro e w5 ⟨v5, rfl, hown, hf5⟩
          obtain ⟨A5', c5', rfl, -, hrow, -⟩ := own_slice hown
          have H5 := hide hrow
          have g5 := g4.trans hf5
          clear hown hrow
          have hq := rconsumers_any (N : Int) A1 AS c1 cs (ofNs L) sm w5 (HL.out.fr0 g5) (HS.out.fr0 g5) (by omega) (by omega)
          rw [hll] at hq
          go_wp2_with fail
          refine hq.mono ?_
          clear hq
          rintro e w6 ⟨v6, rfl, hown, hf6⟩
          obtain ⟨A6', c6', rfl, -, hrow, -⟩ := own_slice hown
          have H6 := hide hrow
          have g6 := g5.trans hf6
          clear hown hrow
          have b1 := closM_len false (N : Int) (ofNs L) sm
          have b2 := closM_len true (N : Int) (ofNs L) sm
          generalize closM false (N : Int) (ofNs L) sm = r1 at b1 H3 H4 ⊢
          generalize closM true (N : Int) (ofNs L) sm = r2 at b2 H5 H6 ⊢
          have e1 : (r1.2 != r1.2) = false := by simp
          have e2 : (r2.2 != r2.2) = false := by simp
          have K3 := hide (H3.out.fr0 (hf4.trans (hf5.trans hf6)))
          have K4 := hide (H4.out.fr0 (hf5.trans hf6))
          have K5 := hide (H5.out.fr0 hf6)
          clear H3 H4 H5 hf3 hf4 hf5 hf6
          go_wp2_with fail
          refine (equalNats_any A3' A4' c3' c4' r1.1 r1.1 w6 K3.out K4.out (by omega) (by omega)).mono ?_
          rintro e w7 ⟨rfl, hf7⟩
          rw [decide_eq_true rfl]
          have g7 := g6.trans hf7
          go_wp2_with fail
          refine (equalNats_any A5' A6' c5' c6' r2.1 r2.1 w7 (K5.out.fr0 hf7) (H6.out.fr0 hf7) (by omega) (by omega)).mono ?_
          rintro e w8 ⟨rfl, hf8⟩
          rw [decide_eq_true rfl]
          have g8 := g7.trans hf8
          clear K3 K4 K5 H6 hf7 hf8 e1 e2 b1 b2
          have hq := suppliers_any (N : Int) A1 B c1 cq (ofNs L) of w8 (HL.out.fr0 g8) (HB.out.fr0 (hw2.call g8)) (by omega) (by omega)
          rw [hll] at hq
          go_wp2_with fail
          refine hq.mono ?_
          clear hq
          rintro e w9 ⟨v9, rfl, hown, hf9⟩
          obtain ⟨A9', c9', rfl, -, hrow, -⟩ := own_slice hown
          have H9 := hide hrow
          have g9 := g8.trans hf9
          clear hown hrow
          have hq := rsuppliers_any (N : Int) A1 B c1 cq (ofNs L) of w9 (HL.out.fr0 g9) (HB.out.fr0 (hw2.call g9)) (by omega) (by omega)
          rw [hll] at hq
          go_wp2_with fail
          refine hq.mono ?_
          clear hq
          rintro e w10 ⟨v10, rfl, hown, hf10⟩
          obtain ⟨A10', c10', rfl, -, hrow, -⟩ := own_slice hown
          have H10 := hide hrow
          have g10 := g9.trans hf10
          clear hown hrow
          have hq := consumers_any n A B cp cq raw of w10 (HR.out.fr0 (hw2.call g10)) (HB.out.fr0 (hw2.call g10)) (by omega) (by omega)
          go_wp2_with fail
          refine hq.mono ?_
          clear hq
          rintro e w11 ⟨v11, rfl, hown, hf11⟩
          obtain ⟨A11', c11', rfl, -, hrow, -⟩ := own_slice hown
          have H11 := hide hrow
          have g11 := g10.trans hf11
          clear hown hrow
          have hq := rconsumers_any n A B cp cq raw of w11 (HR.out.fr0 (hw2.call g11)) (HB.out.fr0 (hw2.call g11)) (by omega) (by omega)
          go_wp2_with fail
          refine hq.mono ?_
          clear hq
          rintro e w12 ⟨v12, rfl, hown, hf12⟩
          obtain ⟨A12', c12', rfl, -, hrow, -⟩ := own_slice hown
          have H12 := hide hrow
          have g12 := g11.trans hf12
          clear hown hrow
          have b1 := closM_len false (N : Int) (ofNs L) of
          have b2 := closM_len true n raw of
          generalize closM false (N : Int) (ofNs L) of = r3 at b1 H9 H10 ⊢
          generalize closM true n raw of = r4 at b2 H11 H12 ⊢
          have e1 : (r3.2 == r3.2) = true := by simp
          have e2 : (r4.2 == r4.2) = true := by simp
          have K9 := hide (H9.out.fr0 (hf10.trans (hf11.trans hf12)))
          have K10 := hide (H10.out.fr0 (hf11.trans hf12))
          have K11 := hide (H11.out.fr0 hf12)
          clear H9 H10 H11 hf9 hf10 hf11 hf12
          go_wp2_with fail
          refine (equalNats_any A9' A10' c9' c10' r3.1 r3.1 w12 K9.out K10.out (by omega) (by omega)).mono ?_
          rintro e w13 ⟨rfl, hf13⟩
          rw [decide_eq_true rfl]
          go_wp2_with fail
          refine (equalNats_any A11' A12' c11' c12' r4.1 r4.1 w13 (K11.out.fr0 hf13) (H12.out.fr0 hf13) (by omega) (by omega)).mono ?_
          rintro e w14 ⟨rfl, hf14⟩
          rw [decide_eq_true rfl]
          go_wp2_with fail
          refine (awake24_any _).mono ?_
          rintro e w15 ⟨rfl, hf15⟩
          go_wp2
          go_ret
          exact ⟨rfl, (((hw2.call g12).call hf13).call hf14).call hf15⟩
end Go.Proofs.Ytnfhiadhpbojkaa

