/- Walks: the reference's shaped. -/
import Derived.Test.YtinengemeppefaaSchW7Mg
namespace Go.Proofs.Ytinengemeppefaa
open Go.RowKit

def seenB (l : List RSl) (d : Nat) : Bool := l.any fun y => y.d == (d : Int)
theorem seenB_iff {l : List RSl} {d : Nat} : seenB l d = true ↔ ∃ y ∈ l, y.d = (d : Int) := by simp [seenB]
theorem seenB_snoc {l : List RSl} {x : RSl} {d : Nat} (h : x.d = (d : Int)) (j : Nat) : seenB (l ++ [x]) j = if j = d then true else seenB l j := by
  unfold seenB
  rw [List.any_append]
  by_cases e : j = d
  · simp [e, h]
  · rw [if_neg e]
    have : (x.d == (j : Int)) = false := by rw [h]; simp; omega
    simp [this]
def ShRel (w1 : World) (g N W : Nat) (D : Nat → Nat) (sl : List RSl) (m : Nat) (i : Value) (wr : World) : Prop :=
  ∃ k : Nat, k ≤ N ∧ i = .int .i64 k ∧ FA wr g 4 Value.bool N (seenB (sl.take k)) ∧ (∀ x ∈ sl.take k, OkSlot N W D x) ∧ ((sl.take k).map RSl.d).Nodup ∧ Fr [] w1 wr ∧ m = N - k
theorem ret_dec {p : Prop} [Decidable p] {b : Bool} (h : decide p = b) : Ending.returned (.bool b) = .returned (.bool (decide p)) := by rw [h]
set_option maxHeartbeats 8000000 in
set_option maxRecDepth 100000 in
theorem rshaped31_any (N V : Nat) (B C : Option Addr) (cq cc : Nat) (dur : List Nat) (sl : List RSl) (w : World) (hb : Row w B (dur.map uv)) (hs : Row w C (rcells sl)) (hN : N ≤ 4096) (hdl : dur.length = N) (hdb : ∀ y ∈ dur, y ≤ maxD) (hsm : sl.length ≤ 4096) (hfit : ∀ x ∈ sl, RFits x) :
    Calls Try.prog 40 #[.int .i64 (N : Int), .slice B dur.length cq, .int .i64 (V : Int), .slice C sl.length cc] w fun e w' => e = .returned (.bool (decide (Shaped N V (durF dur) sl))) ∧ Fr [] w w' := by
  have HB := hide hb
  have HS := hide hs
  have HFT := hide hfit
  have HDB := hide hdb
  have HDL := hide hdl
  clear hb hs hfit hdb hdl
  go_enter Try.func40, Try.ntmps40
  by_cases hln : sl.length = N
  · have hne : ((sl.length : Int) != (N : Int)) = false := by simp [hln]
    have HLN := hide hln
    have hmk := make_bools N N (Nat.le_refl _) (by omega)
    have hnew : FA (w.alloc (.cells (Array.replicate N (.bool false)) 4)) w.heap.size 4 Value.bool N (fun _ => false) := FA.new w 4 Value.bool false N
    have hfr0 : Fr [] w (w.alloc (.cells (Array.replicate N (.bool false)) 4)) := (Fr.refl _ _).alloc _
    clear hln
    go_wp2
    generalize (w.alloc (.cells (Array.replicate N (.bool false)) 4)) = w2 at hnew hfr0 ⊢
    obtain ⟨g, hg⟩ : ∃ g, g = w.heap.size := ⟨_, rfl⟩
    have hgw : w.heap.size ≤ g := by omega
    rw [← hg] at hnew ⊢
    clear hg hmk
    go_loopg [10] N (fun m i wr => ShRel w g N V (durF dur) sl m i wr)
    case atStart => exact ⟨0, by omega, rfl, hnew.congr (fun i _ => by simp [seenB]), by simp, by simp, hfr0, rfl⟩
    case round =>
      clear hnew hfr0
      obtain ⟨k, hk, rfl, hfa, hok, hnd, hfr, hmm⟩ := hrel
      have HM := hide hmm
      have HFA := hide hfa
      have HOK := hide hok
      have HND := hide hnd
      clear hmm hfa hok hnd
      by_cases hlt : k < N
      · obtain ⟨x, hx⟩ : ∃ x, sl[k]? = some x := ⟨_, List.getElem?_eq_getElem (by have := HLN.out; omega)⟩
        obtain ⟨ob, oo, rfl, c0, c1, c2, c3⟩ := (HS.out.fr0 hfr).slot hx
        have hkl : (k : Int) < (N : Int) := by omega
        have hkl2 : (k : Int) < (sl.length : Int) := by rw [HLN.out]; omega
        have hxm := List.mem_of_getElem? hx
        have hft := HFT.out x hxm
        have HX := hide hx
        obtain ⟨xd, xw, xs, xe⟩ := x
        simp only at c0 c1 c2 c3
        have hft1 : xs ≤ 18446744073709551615 := hft.1
        have hft2 : xe ≤ 18446744073709551615 := hft.2
        have hbx := Blk.new wr 38 #[.int .i64 xd, .int .i64 xw, .int .u64 (xs : Int), .int .u64 (xe : Int)]
        have hfx : Fr [] wr (wr.alloc (.cells #[.int .i64 xd, .int .i64 xw, .int .u64 (xs : Int), .int .u64 (xe : Int)] 38)) := (Fr.refl [] wr).alloc _
        clear hx hft
        go_upto_region 8 with (fail)
        generalize (wr.alloc (.cells #[.int .i64 xd, .int .i64 xw, .int .u64 (xs : Int), .int .u64 (xe : Int)] 38)) = wx at hbx hfx ⊢
        generalize wr.heap.size = xb at hbx ⊢
        have b0 : wx.cell? ⟨xb, 0, none⟩ = some (.int .i64 xd) := hbx.cell 0
        have b1 : wx.cell? ⟨xb, 1, none⟩ = some (.int .i64 xw) := hbx.cell 1
        have b2 : wx.cell? ⟨xb, 2, none⟩ = some (.int .u64 (xs : Int)) := hbx.cell 2
        have b3 : wx.cell? ⟨xb, 3, none⟩ = some (.int .u64 (xe : Int)) := hbx.cell 3
        have HFX := hide (HFA.out.fr0 hfx)
        have HBX := hide (HB.out.fr0 (hfr.call hfx))
        clear c0 c1 c2 c3 hbx
        by_cases hrng : 0 ≤ xd ∧ xd < (N : Int) ∧ 0 ≤ xw ∧ xw < (V : Int)
        · obtain ⟨r0, r1, r2, r3⟩ := hrng
          obtain ⟨d, rfl⟩ := Int.eq_ofNat_of_zero_le r0
          have hdN : d < N := by omega
          have g0 : decide ((d : Int) < 0) = false := by simp
          have g1 : decide ((N : Int) ≤ (d : Int)) = false := by simp; omega
          have g1' : decide (N ≤ d) = false := by simp; omega
          have g2 : decide (xw < 0) = false := by simp; omega
          have g3 : decide ((V : Int) ≤ xw) = false := by simp; omega
          have p0 := HFX.out.cell hdN
          have p1 := HFX.out.frozen d
          have hdd : d < dur.length := by have := HDL.out; omega
          have hkd : (d : Int) < (dur.length : Int) := by omega
          obtain ⟨y, hy⟩ : ∃ y, dur[d]? = some y := ⟨_, List.getElem?_eq_getElem hdd⟩
          have hyD : durF dur d = y := by simp [durF, List.getD_eq_getElem?_getD, hy]
          have hyM := HDB.out y (List.mem_of_getElem? hy)
          unfold maxD at hyM
          obtain ⟨bb, bo, rfl, d1⟩ := HBX.out.uint hy
          have hxx : OkSlot N V (durF dur) ⟨d, xw, xs, xe⟩ ↔ xe = xs + y := by
            unfold OkSlot
            simp only [Int.toNat_natCast, hyD]
            omega
          have HXX := hide hxx
          clear hxx hy hyD hxm
          by_cases hsn : seenB (sl.take k) d = true
          · have hno : ¬ Shaped N V (durF dur) sl := by
              obtain ⟨z, hz, e⟩ := seenB_iff.1 hsn
              exact shaped_dup HX.out hz e
            have HNO := hide (decide_eq_false hno)
            rw [hsn] at p0
            clear hno hsn
            go_quiet (fail)
            go_wp2
            go_ret
            exact ⟨ret_dec HNO.out, (hfr.call hfx).drewN _⟩
          · have hsf : seenB (sl.take k) d = false := by simpa using hsn
            have HSF := hide hsf
            rw [hsf] at p0
            clear hsn hsf
            by_cases hlt2 : xe < xs
            · have g4 : decide ((xe : Int) < (xs : Int)) = true := by simp; omega
              have g4' : decide (xe < xs) = true := by simp; omega
              have HNO := hide (decide_eq_false (shaped_not (N := N) (W := V) (D := durF dur) (List.mem_of_getElem? HX.out) (fun h => by have := HXX.out.1 h; omega)))
              go_quiet (fail)
              go_wp2
              go_ret
              exact ⟨ret_dec HNO.out, (hfr.call hfx).drewN _⟩
            · have g4 : decide ((xe : Int) < (xs : Int)) = false := by simp; omega
              have g4' : decide (xe < xs) = false := by simp; omega
              have hw0 : IntKind.u64.wrap ((xe : Int) - (xs : Int)) = (xe : Int) - (xs : Int) := by rw [IntKind.wrap_u64]; omega
              by_cases heq : xe = xs + y
              · have g5 : (((xe : Int) - (xs : Int)) != (y : Int)) = false := by simp; omega
                have HOX := hide (HXX.out.2 heq)
                clear heq
                go_quiet (fail)
                go_wp2
                go_roundg (N - (k + 1))
                case measure => rw [HM.out]; omega
                case rel =>
                  refine ⟨k + 1, by omega, by go_num, ?_, fun z hz => ?_, ?_, ?_, rfl⟩
                  · refine FA.congr ((HFX.out.fr0 ((Fr.refl [] _).drewN _)).set_ d true) (fun j _ => ?_)
                    rw [take_succ_some HX.out, seenB_snoc rfl]
                  · rw [take_succ_some HX.out] at hz
                    rcases List.mem_append.1 hz with h | h
                    · exact HOK.out z h
                    · rw [List.mem_singleton.1 h]; exact HOX.out
                  · rw [take_succ_some HX.out, List.map_append, List.nodup_append]
                    refine ⟨HND.out, by simp, fun a ha b hb' => ?_⟩
                    simp at hb'
                    obtain ⟨z, hz, rfl⟩ := List.mem_map.1 ha
                    rw [hb']
                    intro e
                    have := seenB_iff.2 ⟨z, hz, e⟩
                    rw [HSF.out] at this
                    cases this
                  · exact ((hfr.call hfx).drewN _).set (.inr hgw) _
              · have g5 : (((xe : Int) - (xs : Int)) != (y : Int)) = true := by simp; omega
                have HNO := hide (decide_eq_false (shaped_not (N := N) (W := V) (D := durF dur) (List.mem_of_getElem? HX.out) (fun h => heq (HXX.out.1 h))))
                clear heq
                go_quiet (fail)
                go_wp2
                go_ret
                exact ⟨ret_dec HNO.out, (hfr.call hfx).drewN _⟩
        · have hno : ¬ Shaped N V (durF dur) sl := shaped_not hxm (fun h => hrng ⟨h.1, h.2.1, h.2.2.1, h.2.2.2.1⟩)
          have HNO := hide (decide_eq_false hno)
          have hway : xd < 0 ∨ (¬ xd < 0 ∧ (N : Int) ≤ xd) ∨ (¬ xd < 0 ∧ ¬ (N : Int) ≤ xd ∧ xw < 0) ∨ (¬ xd < 0 ∧ ¬ (N : Int) ≤ xd ∧ ¬ xw < 0 ∧ (V : Int) ≤ xw) := by omega
          clear hno hxm hrng
          rcases hway with h | ⟨h1, h2⟩ | ⟨h1, h2, h3⟩ | ⟨h1, h2, h3, h4⟩
          · have g0 : decide (xd < 0) = true := decide_eq_true h
            go_quiet (fail)
            go_wp2
            go_ret
            exact ⟨ret_dec HNO.out, (hfr.call hfx).drewN _⟩
          · have g0 : decide (xd < 0) = false := decide_eq_false h1
            have g1 : decide ((N : Int) ≤ xd) = true := decide_eq_true h2
            go_quiet (fail)
            go_wp2
            go_ret
            exact ⟨ret_dec HNO.out, (hfr.call hfx).drewN _⟩
          · have g0 : decide (xd < 0) = false := decide_eq_false h1
            have g1 : decide ((N : Int) ≤ xd) = false := decide_eq_false h2
            have g2 : decide (xw < 0) = true := decide_eq_true h3
            go_quiet (fail)
            go_wp2
            go_ret
            exact ⟨ret_dec HNO.out, (hfr.call hfx).drewN _⟩
          · have g0 : decide (xd < 0) = false := decide_eq_false h1
            have g1 : decide ((N : Int) ≤ xd) = false := decide_eq_false h2
            have g2 : decide (xw < 0) = false := decide_eq_false h3
            have g3 : decide ((V : Int) ≤ xw) = true := decide_eq_true h4
            go_quiet (fail)
            go_wp2
            go_ret
            exact ⟨ret_dec HNO.out, (hfr.call hfx).drewN _⟩
      · have hkl : ¬ (k : Int) < (N : Int) := by omega
        have hok := HOK.out
        have hnd := HND.out
        rw [List.take_of_length_le (by have := HLN.out; omega)] at hok hnd
        have HSH := hide (decide_eq_true (show Shaped N V (durF dur) sl from ⟨HLN.out, hok, hnd⟩))
        clear hok hnd
        go_wp2
        go_ret
        exact ⟨ret_dec HSH.out, hfr⟩
  · have hne : ((sl.length : Int) != (N : Int)) = true := by simp; omega
    have HNO := hide (decide_eq_false (show ¬ Shaped N V (durF dur) sl from fun h => hln h.1))
    clear hln
    go_wp2
    go_ret
    exact ⟨ret_dec HNO.out, Fr.refl _ _⟩
end Go.Proofs.Ytinengemeppefaa

