/- Walks: resume.Verify. -/
import Derived.Test.YtdocdgghphhdpaaMgResumeDrives22
namespace Go.Proofs.Ytdocdgghphhdpaa
open Go.RowKit

def VeRel1 (w1 : World) (g n : Nat) (m : Nat) (i : Value) (wr : World) : Prop := ∃ k : Nat, k ≤ n ∧ i = .int .i64 k ∧ FA wr g 3 iv n (fun j => if j < k then -1 else 0) ∧ Fr [] w1 wr ∧ m = n - k
def VeRel2 (w1 : World) (g n W : Nat) (D : Nat → Nat) (sl : List RSl) (m : Nat) (i : Value) (wr : World) : Prop :=
  ∃ k : Nat, k ≤ sl.length ∧ i = .int .i64 k ∧ FA wr g 3 iv n (posOf (sl.take k)) ∧ (∀ x ∈ sl.take k, OkSlot n W D x) ∧ ((sl.take k).map RSl.d).Nodup ∧ Fr [] w1 wr ∧ m = sl.length - k
def VeRel3 (w1 : World) (sl : List RSl) (m : Nat) (i : Value) (wr : World) : Prop := ∃ k : Nat, k ≤ sl.length ∧ i = .int .i64 k ∧ NoClash (sl.take k) ∧ Fr [] w1 wr ∧ m = sl.length - k
def VeRel4 (w1 : World) (sl : List RSl) (x : RSl) (k m : Nat) (i : Value) (wr : World) : Prop := ∃ j : Nat, j ≤ k ∧ i = .int .i64 j ∧ (∀ y ∈ sl.take j, ¬ Clash x y) ∧ Fr [] w1 wr ∧ m = k - j
def VeRel5 (w1 : World) (sl : List RSl) (l : List (Int × Int)) (m : Nat) (i : Value) (wr : World) : Prop := ∃ k : Nat, k ≤ l.length ∧ i = .int .i64 k ∧ (∀ q ∈ l.take k, DepOk sl q) ∧ Fr [] w1 wr ∧ m = l.length - k
theorem shaped_not {N W : Nat} {D : Nat → Nat} {sl : List RSl} {x : RSl} (hx : x ∈ sl) (h : ¬ OkSlot N W D x) : ¬ Shaped N W D sl := fun k => h (k.2.1 x hx)
theorem shaped_dup {N W : Nat} {D : Nat → Nat} {sl : List RSl} {k : Nat} {x y : RSl} (hx : sl[k]? = some x) (hy : y ∈ sl.take k) (e : y.d = x.d) : ¬ Shaped N W D sl := fun h => by
  have hn := h.2.2
  rw [split_at_some hx, List.map_append, List.nodup_append] at hn
  exact hn.2.2 y.d (List.mem_map.2 ⟨y, hy, rfl⟩) x.d (by simp) e
set_option maxHeartbeats 8000000 in
set_option maxRecDepth 100000 in
theorem verify31_any (n W : Int) (A B C : Option Addr) (cp cq cc : Nat) (l : List (Int × Int)) (dur : List Nat) (sl : List RSl) (w : World) (hr : Row w A (pcs l)) (hb : Row w B (dur.map uv)) (hs : Row w C (rcells sl)) (hm : l.length ≤ 4096) (hsm : sl.length ≤ 4096) (hcc : sl.length ≤ cc) (hfit : ∀ x ∈ sl, RFits x) :
    Calls Try.prog 89 #[.int .i64 n, .slice A l.length cp, .slice B dur.length cq, .int .i64 W, .slice C sl.length cc] w fun e w' => e = .returned (.int .i64 (verM n l dur W sl)) ∧ Fr [] w w' := by
  have HB := hide hb
  have HR := hide hr
  have HS := hide hs
  have HFT := hide hfit
  clear hr hb hs hfit
  go_enter Try.func89, Try.ntmps89
  go_wp2_with fail
  refine (check31_any n W A B cp cq l dur w HR.out HB.out hm).mono ?_
  rintro e w1 ⟨rfl, hf1⟩
  by_cases hc : chkM n l dur W = 0
  · obtain ⟨N, V, rfl, rfl, hgood⟩ := chkM_good hc
    have HC := hide hc
    have HG := hide hgood
    have hN := hgood.nodes
    have hW := hgood.wk
    have hdl := hgood.len
    rw [hc]
    clear hc hgood
    by_cases hln : sl.length = N
    · have hne : ((sl.length : Int) != (N : Int)) = false := by simp [hln]
      have HLN := hide hln
      have hmk := make_ints N N (Nat.le_refl _) (by omega)
      have hnew : FA (w1.alloc (.cells (Array.replicate N (.int .i64 0)) 3)) w1.heap.size 3 iv N (fun _ => 0) := FA.new w1 3 iv 0 N
      have hfr0 : Fr [] w1 (w1.alloc (.cells (Array.replicate N (.int .i64 0)) 3)) := (Fr.refl _ _).alloc _
      have hgl : w1.heap.size ≤ w1.heap.size := Nat.le_refl _
      clear hln
      go_wp2
      generalize (w1.alloc (.cells (Array.replicate N (.int .i64 0)) 3)) = w2 at hnew hfr0 ⊢
      obtain ⟨g, hg⟩ : ∃ g, g = w1.heap.size := ⟨_, rfl⟩
      have hgw : w1.heap.size ≤ g := by omega
      rw [← hg] at hnew ⊢
      clear hg hmk hgl
      go_loopg [38] N (fun m i wr => VeRel1 w1 g N m i wr)
      case atStart => exact ⟨0, by omega, rfl, hnew.congr (fun i _ => by simp), hfr0, rfl⟩
      case round =>
        clear hnew hfr0
        obtain ⟨k, hk, rfl, hfa, hfr, hmm⟩ := hrel
        have HM := hide hmm
        have HFA := hide hfa
        clear hmm hfa
        by_cases hlt : k < N
        · have hkl : (k : Int) < (N : Int) := by omega
          have c0 := HFA.out.cell hlt
          have f0 := HFA.out.frozen k
          go_wp2
          go_roundg (N - (k + 1))
          case measure => rw [HM.out]; omega
          case rel =>
            refine ⟨k + 1, by omega, by go_num, (HFA.out.set_ k (-1)).congr (fun j _ => ?_), hfr.set (.inr hgw) _, rfl⟩
            by_cases e : j = k
            · rw [if_pos e, if_pos (by omega)]
            · rw [if_neg e]
              by_cases e2 : j < k
              · rw [if_pos e2, if_pos (by omega)]
              · rw [if_neg e2, if_neg (by omega)]
        · have hkl : ¬ (k : Int) < (N : Int) := by omega
          have hfa0 := HFA.out.congr (f' := posOf []) (fun i hi => by rw [if_pos (by omega), posOf_nil])
          have HFA0 := hide hfa0
          have hfr1 := hfr
          clear hfa0 HFA HM
          go_wp2
          go_loopg [47] sl.length (fun m i wr => VeRel2 w1 g N V (durF dur) sl m i wr)
          case atStart => exact ⟨0, by omega, rfl, by simpa using HFA0.out, by simp, by simp, hfr1, rfl⟩
          case round =>
            clear HFA0 hfr hfr1
            obtain ⟨k, hk, rfl, hfa, hok, hnd, hfr, hmm⟩ := hrel
            have HM := hide hmm
            have HFA := hide hfa
            have HOK := hide hok
            have HND := hide hnd
            clear hmm hfa hok hnd
            by_cases hlt : k < sl.length
            · obtain ⟨x, hx⟩ : ∃ x, sl[k]? = some x := ⟨_, List.getElem?_eq_getElem hlt⟩
              obtain ⟨ob, oo, rfl, c0, c1, c2, c3⟩ := ((HS.out.fr0 hf1).fr0 hfr).slot hx
              have hkl : (k : Int) < (sl.length : Int) := by omega
              have hxm := List.mem_of_getElem? hx
              have hft := HFT.out x hxm
              by_cases hrng : 0 ≤ x.d ∧ x.d < (N : Int) ∧ 0 ≤ x.w ∧ x.w < (V : Int)
              · obtain ⟨r0, r1, r2, r3⟩ := hrng
                obtain ⟨d, hd⟩ := Int.eq_ofNat_of_zero_le r0
                have hdN : d < N := by omega
                have hps := HFA.out.cell hdN
                have hpf := HFA.out.frozen d
                by_cases hpos : 0 ≤ posOf (sl.take k) d
                · have hno : ¬ Shaped N V (durF dur) sl := by
                    have h1 : ¬ ∀ y ∈ sl.take k, y.d ≠ (d : Int) := fun h => posOf_neg.2 h hpos
                    have h2 : ∃ y ∈ sl.take k, y.d = (d : Int) := by
                      apply Classical.byContradiction
                      intro h3
                      exact h1 fun y hy e => h3 ⟨y, hy, e⟩
                    obtain ⟨y, hy, e⟩ := h2
                    exact shaped_dup hx hy (e.trans hd.symm)
                  have HNO := hide (verM_shape HC.out hno)
                  generalize posOf (sl.take k) d = pp at hps hpos
                  obtain ⟨xd, xw, xs, xe⟩ := x
                  simp only at c0 c1 c2 c3 r0 r1 r2 r3 hd
                  subst hd
                  have hps2 : (wr.alloc (.cells #[.int .i64 (d : Int), .int .i64 xw, .int .u64 (xs : Int), .int .u64 (xe : Int)] 109)).cell? ⟨g, d, none⟩ = some (.int .i64 pp) := Fr.cell ((Fr.refl [] wr).alloc _) hps (by simp)
                  clear hno hx hxm hft HFA HOK HND hps
                  go_wp2
                  go_ret
                  exact ⟨ret_int HNO.out.symm, (hf1.call hfr).alloc _⟩
                · have hposI : posOf (sl.take k) d < 0 := by omega
                  have hfresh := posOf_neg.1 hpos
                  have hdd : d < dur.length := by omega
                  obtain ⟨y, hy⟩ : ∃ y, dur[d]? = some y := ⟨_, List.getElem?_eq_getElem hdd⟩
                  have hyD : durF dur d = y := by simp [durF, List.getD_eq_getElem?_getD, hy]
                  have hyM := HG.out.dur y (List.mem_of_getElem? hy)
                  unfold maxD at hyM
                  obtain ⟨bb, bo, rfl, b1⟩ := (((HB.out.fr0 hf1).fr0 hfr).fr0 ((Fr.refl [] wr).alloc (.cells #[.int .i64 x.d, .int .i64 x.w, .int .u64 (x.s : Int), .int .u64 (x.e : Int)] 109))).uint hy
                  have hkd : (d : Int) < (dur.length : Int) := by omega
                  have hxx : OkSlot N V (durF dur) x ↔ x.e = x.s + y := by
                    unfold OkSlot
                    rw [hd, Int.toNat_natCast, hyD]
                    omega
                  have HXX := hide hxx
                  have hft1 := hft.1
                  have hft2 := hft.2
                  have hsn : posOf (sl.take (k + 1)) = fun j => if j = d then (k : Int) else posOf (sl.take k) j := by
                    funext j
                    rw [take_succ_some hx, posOf_snoc (fun z hz => by rw [hd]; exact hfresh z hz) j, List.length_take, Nat.min_eq_left (by omega)]
                    by_cases e : j = d
                    · rw [if_pos e, if_pos (by rw [hd, e])]
                    · rw [if_neg e, if_neg (by rw [hd]; omega)]
                  have HSN := hide hsn
                  have HX := hide hx
                  have HD := hide hd
                  have HFR := hide hfresh
                  have HPS : posOf (sl.take k) d = posOf (sl.take k) d := rfl
                  clear HPS
                  obtain ⟨pp, hpp⟩ : ∃ pp, pp = posOf (sl.take k) d := ⟨_, rfl⟩
                  rw [← hpp] at hps hposI
                  have hxs : ∀ xd xw, xd = x.d → xw = x.w → True := fun _ _ _ _ => trivial
                  clear hpp hpos hxs hsn hfresh hy hyD hxx hft hx hxm
                  have c0' : wr.cell? ⟨ob, oo + k * 4, none⟩ = some (.int .i64 (d : Int)) := by rw [← HD.out]; exact c0
                  rw [hd] at r0 r1 b1
                  clear c0 hd
                  generalize hxw : x.w = xw at c1 r2 r3 b1
                  generalize hxs : x.s = xs at c2 b1 hft1 HXX
                  generalize hxe : x.e = xe at c3 b1 hft2 HXX
                  clear hxw hxs hxe
                  have hpx := (HFA.out.fr0 ((Fr.refl [] wr).alloc (.cells #[.int .i64 (d : Int), .int .i64 xw, .int .u64 (xs : Int), .int .u64 (xe : Int)] 109)))
                  have HPX := hide hpx
                  have hps2 : (wr.alloc (.cells #[.int .i64 (d : Int), .int .i64 xw, .int .u64 (xs : Int), .int .u64 (xe : Int)] 109)).cell? ⟨g, d, none⟩ = some (.int .i64 pp) := Fr.cell ((Fr.refl [] wr).alloc _) hps (by simp)
                  have hpf2 := HPX.out.frozen d
                  clear hpx hps hpf
                  by_cases hov : 18446744073709551615 - (y : Int) < (xs : Int)
                  · have hov' : decide (18446744073709551615 - (y : Int) < (xs : Int)) = true := decide_eq_true hov
                    have HNO := hide (verM_shape HC.out (shaped_not (List.mem_of_getElem? HX.out) (fun h => by have := HXX.out.1 h; omega)))
                    go_wp2
                    go_quiet (fail)
                    go_wp2
                    go_ret
                    exact ⟨ret_int HNO.out.symm, ((hf1.call hfr).alloc _).drewN _⟩
                  · have hov' : decide (18446744073709551615 - (y : Int) < (xs : Int)) = false := decide_eq_false hov
                    have hov2 : (xs : Int) + (y : Int) ≤ 18446744073709551615 := by omega
                    by_cases heq : xe = xs + y
                    · have heq' : ((xe : Int) != (xs : Int) + (y : Int)) = false := by simp [heq]
                      have HOX := hide (HXX.out.2 heq)
                      clear heq
                      go_wp2
                      go_quiet (fail)
                      go_wp2
                      go_roundg (sl.length - (k + 1))
                      case measure => rw [HM.out]; omega
                      case rel =>
                        refine ⟨k + 1, by omega, by go_num, ?_, fun z hz => ?_, ?_, ?_, rfl⟩
                        · rw [HSN.out]
                          exact (HPX.out.fr0 ((Fr.refl [] _).drewN _)).set_ d (k : Int)
                        · rw [take_succ_some HX.out] at hz
                          rcases List.mem_append.1 hz with h | h
                          · exact HOK.out z h
                          · rw [List.mem_singleton.1 h]; exact HOX.out
                        · rw [take_succ_some HX.out, List.map_append, List.nodup_append]
                          refine ⟨HND.out, by simp, fun a ha b hb' => ?_⟩
                          simp at hb'
                          obtain ⟨z, hz, rfl⟩ := List.mem_map.1 ha
                          rw [hb', HD.out]
                          exact HFR.out z hz
                        · exact ((hfr.alloc _).drewN _).set (.inr hgw) _
                    · have heq' : ((xe : Int) != (xs : Int) + (y : Int)) = true := by simp; omega
                      have HNO := hide (verM_shape HC.out (shaped_not (List.mem_of_getElem? HX.out) (fun h => heq (HXX.out.1 h))))
                      clear heq
                      go_wp2
                      go_quiet (fail)
                      go_wp2
                      go_ret
                      exact ⟨ret_int HNO.out.symm, ((hf1.call hfr).alloc _).drewN _⟩
              · have hno : ¬ Shaped N V (durF dur) sl := shaped_not hxm (fun h => hrng ⟨h.1, h.2.1, h.2.2.1, h.2.2.2.1⟩)
                have HNO := hide (verM_shape HC.out hno)
                obtain ⟨xd, xw, xs, xe⟩ := x
                simp only at c0 c1 c2 c3 hrng
                have hway : xd < 0 ∨ (0 ≤ xd ∧ (N : Int) ≤ xd) ∨ (0 ≤ xd ∧ xd < (N : Int) ∧ xw < 0) ∨ (0 ≤ xd ∧ xd < (N : Int) ∧ 0 ≤ xw ∧ (V : Int) ≤ xw) := by omega
                clear hno hx hxm hft HFA HOK HND hrng
                rcases hway with h | ⟨h1, h2⟩ | ⟨h1, h2, h3⟩ | ⟨h1, h2, h3, h4⟩
                all_goals
                  go_wp2
                  go_ret
                  exact ⟨ret_int HNO.out.symm, (hf1.call hfr).alloc _⟩
            · have hkl : ¬ (k : Int) < (sl.length : Int) := by omega
              have hfa := HFA.out
              have hok := HOK.out
              have hnd := HND.out
              rw [List.take_of_length_le (by omega)] at hfa hok hnd
              have hsh : Shaped N V (durF dur) sl := ⟨HLN.out, hok, hnd⟩
              have HSH := hide hsh
              have HPO := hide hfa
              have hfr1 := hfr
              clear hfa hok hnd hsh HFA HOK HND HM
              go_wp2
              go_loopg [110] sl.length (fun m i wq => VeRel3 wr sl m i wq)
              case atStart => exact ⟨0, by omega, rfl, by simp [NoClash], Fr.refl _ _, rfl⟩
              case round =>
                clear hfr hkl hk
                obtain ⟨k, hk, rfl, hnc, hfr, hmm⟩ := hrel
                have HM := hide hmm
                have HNC := hide hnc
                clear hmm hnc
                by_cases hlt : k < sl.length
                · obtain ⟨x, hx⟩ : ∃ x, sl[k]? = some x := ⟨_, List.getElem?_eq_getElem hlt⟩
                  obtain ⟨ob, oo, hC, c0, c1, c2, c3⟩ := (((HS.out.fr0 hf1).fr0 hfr1).fr0 hfr).slot hx
                  subst hC
                  obtain ⟨xd, xw, xs, xe⟩ := x
                  simp only at c0 c1 c2 c3
                  have hkl : (k : Int) < (sl.length : Int) := by omega
                  have hkc : (k : Int) ≤ (cc : Int) := by omega
                  have HX := hide hx
                  clear hx
                  have hbx := Blk.new wr 109 #[.int .i64 xd, .int .i64 xw, .int .u64 (xs : Int), .int .u64 (xe : Int)]
                  have hfx : Fr [] _ (wr.alloc (.cells #[.int .i64 xd, .int .i64 xw, .int .u64 (xs : Int), .int .u64 (xe : Int)] 109)) := hfr.alloc _
                  go_wp2
                  generalize (wr.alloc (.cells #[.int .i64 xd, .int .i64 xw, .int .u64 (xs : Int), .int .u64 (xe : Int)] 109)) = wx at hbx hfx ⊢
                  generalize wr.heap.size = xb at hbx ⊢
                  have HBX := hide hbx
                  have HSX := hide (((HS.out.fr0 hf1).fr0 hfr1).fr0 hfx)
                  clear hbx c0 c1 c2 c3
                  go_loopg [119] k (fun m i wi => VeRel4 wx sl ⟨xd, xw, xs, xe⟩ k m i wi)
                  case atStart => exact ⟨0, by omega, rfl, by simp, Fr.refl _ _, rfl⟩
                  case round =>
                    obtain ⟨j, hj, rfl, hall, hfj, hmm⟩ := hrel
                    have HM2 := hide hmm
                    have HALL := hide hall
                    clear hmm hall
                    by_cases hlt2 : j < k
                    · obtain ⟨y, hy⟩ : ∃ y, sl[j]? = some y := ⟨_, List.getElem?_eq_getElem (by omega)⟩
                      obtain ⟨ob2, oo2, e2, c0, c1, c2, c3⟩ := (HSX.out.fr0 hfj).slot hy
                      injection e2 with e2
                      injection e2 with e2 e3
                      subst e2 e3
                      have hjl : (j : Int) < (k : Int) := by omega
                      obtain ⟨yd, yw, ys, ye⟩ := y
                      simp only at c0 c1 c2 c3
                      have HY := hide hy
                      clear hy
                      have hbj := (HBX.out.fr hfj (by simp)).fr ((Fr.refl [] wr).alloc (.cells #[.int .i64 yd, .int .i64 yw, .int .u64 (ys : Int), .int .u64 (ye : Int)] 109)) (by simp)
                      have x1 : (wr.alloc (.cells #[.int .i64 yd, .int .i64 yw, .int .u64 (ys : Int), .int .u64 (ye : Int)] 109)).cell? ⟨xb, 1, none⟩ = some (.int .i64 xw) := hbj.cell 1
                      have x2 : (wr.alloc (.cells #[.int .i64 yd, .int .i64 yw, .int .u64 (ys : Int), .int .u64 (ye : Int)] 109)).cell? ⟨xb, 2, none⟩ = some (.int .u64 (xs : Int)) := hbj.cell 2
                      have x3 : (wr.alloc (.cells #[.int .i64 yd, .int .i64 yw, .int .u64 (ys : Int), .int .u64 (ye : Int)] 109)).cell? ⟨xb, 3, none⟩ = some (.int .u64 (xe : Int)) := hbj.cell 3
                      have hcl : Clash ⟨xd, xw, xs, xe⟩ ⟨yd, yw, ys, ye⟩ ↔ xw = yw ∧ xs < ye ∧ ys < xe := Iff.rfl
                      have HCL := hide hcl
                      have hgo : ¬ Clash ⟨xd, xw, xs, xe⟩ ⟨yd, yw, ys, ye⟩ → ∀ z ∈ sl.take (j + 1), ¬ Clash ⟨xd, xw, xs, xe⟩ z := fun hn z hz => by
                        rw [take_succ_some HY.out] at hz
                        rcases List.mem_append.1 hz with h | h
                        · exact HALL.out z h
                        · rw [List.mem_singleton.1 h]; exact hn
                      have HGO := hide hgo
                      clear hbj hcl hgo
                      by_cases e1 : xw = yw
                      · subst e1
                        by_cases e2 : xs < ye
                        · have e2' : (xs : Int) < (ye : Int) := by omega
                          by_cases e3 : ys < xe
                          · have e3' : (ys : Int) < (xe : Int) := by omega
                            have hno : ¬ NoClash sl := fun h => by
                              unfold NoClash at h
                              rw [split_at_some HX.out, List.pairwise_append] at h
                              have hyt : (⟨yd, xw, ys, ye⟩ : RSl) ∈ sl.take k := by
                                rw [List.mem_iff_getElem?]
                                exact ⟨j, by rw [List.getElem?_take, if_pos hlt2]; exact HY.out⟩
                              exact h.2.2 _ hyt ⟨xd, xw, xs, xe⟩ (by simp) (HCL.out.2 ⟨rfl, e2, e3⟩)
                            have HNO := hide (verM_clash HC.out HSH.out hno)
                            clear hno e2 e3
                            go_wp2
                            go_ret
                            exact ⟨ret_int HNO.out.symm, (((hf1.call hfr1).call hfx).call hfj).alloc _⟩
                          · have e3' : ¬ (ys : Int) < (xe : Int) := by omega
                            have HG2 := hide (HGO.out (fun h => e3 (HCL.out.1 h).2.2))
                            go_wp2
                            go_roundg (k - (j + 1))
                            case measure => rw [HM2.out]; omega
                            case rel => exact ⟨j + 1, by omega, by go_num, HG2.out, hfj.alloc _, rfl⟩
                        · have e2' : ¬ (xs : Int) < (ye : Int) := by omega
                          have HG2 := hide (HGO.out (fun h => e2 (HCL.out.1 h).2.1))
                          go_wp2
                          go_roundg (k - (j + 1))
                          case measure => rw [HM2.out]; omega
                          case rel => exact ⟨j + 1, by omega, by go_num, HG2.out, hfj.alloc _, rfl⟩
                      · have e1' : (xw == yw) = false := by simp [e1]
                        have HG2 := hide (HGO.out (fun h => e1 (HCL.out.1 h).1))
                        go_wp2
                        go_roundg (k - (j + 1))
                        case measure => rw [HM2.out]; omega
                        case rel => exact ⟨j + 1, by omega, by go_num, HG2.out, hfj.alloc _, rfl⟩
                    · have hjl : ¬ (j : Int) < (k : Int) := by omega
                      obtain rfl : j = k := by omega
                      have hnc2 : NoClash (sl.take (j + 1)) := by
                        unfold NoClash
                        rw [take_succ_some HX.out, List.pairwise_append]
                        exact ⟨HNC.out, by simp, fun y hy z hz => by rw [List.mem_singleton.1 hz]; exact HALL.out y hy⟩
                      have HN2 := hide hnc2
                      clear hnc2
                      go_wp2
                      go_roundg (sl.length - (j + 1))
                      case measure => rw [HM.out]; omega
                      case rel => exact ⟨j + 1, by omega, by go_num, HN2.out, hfx.call hfj, rfl⟩
                · have hkl : ¬ (k : Int) < (sl.length : Int) := by omega
                  have hnc := HNC.out
                  rw [List.take_of_length_le (by omega)] at hnc
                  have HNN := hide hnc
                  have hfr2 := hfr
                  clear hnc HNC HM
                  go_wp2
                  go_loopg [146] l.length (fun m i wq => VeRel5 wr sl l m i wq)
                  case atStart => exact ⟨0, by omega, rfl, by simp, Fr.refl _ _, rfl⟩
                  case round =>
                    clear hfr hkl hk
                    obtain ⟨k, hk, rfl, hdp, hfr, hmm⟩ := hrel
                    have HM := hide hmm
                    have HDP := hide hdp
                    clear hmm hdp
                    by_cases hlt : k < l.length
                    · obtain ⟨q, hq⟩ : ∃ q, l[k]? = some q := ⟨_, List.getElem?_eq_getElem hlt⟩
                      obtain ⟨ob, oo, hA, c0, c1⟩ := ((((HR.out.fr0 hf1).fr0 hfr1).fr0 hfr2).fr0 hfr).link hq
                      subst hA
                      have hkl : (k : Int) < (l.length : Int) := by omega
                      have hql := HG.out.links.2.2.2 q (List.mem_of_getElem? hq)
                      obtain ⟨qc, qs⟩ := q
                      unfold LinkOk at hql
                      simp only at hql c0 c1
                      obtain ⟨q1, q2, q3, q4⟩ := hql
                      obtain ⟨c, rfl⟩ := Int.eq_ofNat_of_zero_le q1
                      obtain ⟨s, rfl⟩ := Int.eq_ofNat_of_zero_le q3
                      have hcN : c < N := by omega
                      have hsN : s < N := by omega
                      obtain ⟨y1, hy1, ey1⟩ := HSH.out.mem hcN
                      obtain ⟨y2, hy2, ey2⟩ := HSH.out.mem hsN
                      obtain ⟨i, x, hp1, hx, ex⟩ := posOf_mem hy1 ey1
                      obtain ⟨j, y, hp2, hy, ey⟩ := posOf_mem hy2 ey2
                      have hil := (List.getElem?_eq_some_iff.1 hx).1
                      have hjl := (List.getElem?_eq_some_iff.1 hy).1
                      have hfal := ((HPO.out.fr0 hfr2).fr0 hfr).fr0 ((Fr.refl [] wr).alloc (.cells #[.int .i64 (c : Int), .int .i64 (s : Int)] 76))
                      have p1 := hfal.cell hcN
                      have p2 := hfal.cell hsN
                      rw [hp1] at p1
                      rw [hp2] at p2
                      have hsr := ((((HS.out.fr0 hf1).fr0 hfr1).fr0 hfr2).fr0 hfr).fr0 ((Fr.refl [] wr).alloc (.cells #[.int .i64 (c : Int), .int .i64 (s : Int)] 76))
                      obtain ⟨sb, so, hC, -, -, s2, -⟩ := hsr.slot hx
                      obtain ⟨sb2, so2, hC2, -, -, -, s3⟩ := hsr.slot hy
                      rw [hC] at hC2
                      injection hC2 with hC2
                      injection hC2 with hC2 hC3
                      subst hC2 hC3
                      subst hC
                      have hdep := depOk_iff (q := ((c : Int), (s : Int))) HSH.out.2.2 (List.mem_of_getElem? hx) (List.mem_of_getElem? hy) ex ey
                      generalize hxs : x.s = xs at s2 hdep
                      generalize hye : y.e = ye at s3 hdep
                      have HDEP := hide hdep
                      have HQ := hide hq
                      have hi2 : (i : Int) < (sl.length : Int) := by omega
                      have hj2 : (j : Int) < (sl.length : Int) := by omega
                      clear hdep hq hxs hye hx hy hy1 hy2 ey1 ey2 ex ey hp1 hp2 hfal hsr hil hjl hcN hsN
                      by_cases hlt3 : xs < ye
                      · have hlt3' : (xs : Int) < (ye : Int) := by omega
                        have HNO := hide (verM_dep HC.out HSH.out HNN.out (fun h => HDEP.out.1 (h _ (List.mem_of_getElem? HQ.out)) hlt3))
                        clear hlt3
                        go_wp2
                        go_quiet (fail)
                        go_wp2
                        go_ret
                        exact ⟨ret_int HNO.out.symm, ((((hf1.call hfr1).call hfr2).call hfr).alloc _).drewN _⟩
                      · have hlt3' : ¬ (xs : Int) < (ye : Int) := by omega
                        have HD2 := hide (HDEP.out.2 hlt3)
                        clear hlt3
                        go_wp2
                        go_quiet (fail)
                        go_wp2
                        go_roundg (l.length - (k + 1))
                        case measure => rw [HM.out]; omega
                        case rel =>
                          refine ⟨k + 1, by omega, by go_num, fun z hz => ?_, (hfr.alloc _).drewN _, rfl⟩
                          rw [take_succ_some HQ.out] at hz
                          rcases List.mem_append.1 hz with h | h
                          · exact HDP.out z h
                          · rw [List.mem_singleton.1 h]; exact HD2.out
                    · have hkl : ¬ (k : Int) < (l.length : Int) := by omega
                      have hdp := HDP.out
                      rw [List.take_of_length_le (by omega)] at hdp
                      have HNO := hide (verM_ok HC.out HSH.out HNN.out hdp)
                      clear hdp
                      go_wp2
                      go_ret
                      exact ⟨ret_int HNO.out.symm, ((hf1.call hfr1).call hfr2).call hfr⟩
    · have hne : ((sl.length : Int) != (N : Int)) = true := by simp; omega
      have HNO := hide (verM_shape HC.out (fun h => hln h.1))
      clear hln
      go_wp2
      go_ret
      exact ⟨ret_int HNO.out.symm, hf1⟩
  · have hne : (chkM n l dur W != 0) = true := by simp [hc]
    have HM1 := hide (verM_bad (sl := sl) hc)
    clear hc
    go_wp2
    go_ret
    exact ⟨ret_int HM1.out.symm, hf1⟩
end Go.Proofs.Ytdocdgghphhdpaa

