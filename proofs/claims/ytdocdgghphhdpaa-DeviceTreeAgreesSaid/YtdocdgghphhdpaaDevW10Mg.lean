/- Walks: device.Check. -/
import Derived.Test.YtdocdgghphhdpaaMgDeviceTree5
import Derived.Deep.Cut
import Derived.Deep.CutBlock
namespace Go.Proofs.Ytdocdgghphhdpaa
open Go.RowKit

/-- A power device with its lists of rails. -/
structure DV where
  d : PD
  rl : Nat → List Int
def dvc (x : DV) : List Value := x.d.cells.toList
theorem dvc_len (x : DV) : (dvc x).length = 13 := rfl
def dvcs (l : List DV) : List Value := l.flatMap dvc
def DvsAt (w : World) (A : Option Addr) (l : List DV) : Prop := Row w A (dvcs l) ∧ ∀ x ∈ l, RailsAt w x.d x.rl
theorem DvsAt.fr0 {w w' : World} {A : Option Addr} {l : List DV} (h : DvsAt w A l) (k : Fr [] w w') : DvsAt w' A l := ⟨h.1.fr0 k, fun x hx => (h.2 x hx).fr0 k⟩
abbrev PDat (w : World) (ob o : Nat) (d : PD) : Prop :=
  w.cell? ⟨ob, o, none⟩ = some (.int .i64 d.par) ∧ w.cell? ⟨ob, o + 1, none⟩ = some (d.rf 0) ∧ w.cell? ⟨ob, o + 2, none⟩ = some (d.rf 1) ∧ w.cell? ⟨ob, o + 3, none⟩ = some (d.rf 2) ∧ w.cell? ⟨ob, o + 4, none⟩ = some (d.rf 3) ∧
  w.cell? ⟨ob, o + 5, none⟩ = some (.int .i64 (d.df 0)) ∧ w.cell? ⟨ob, o + 6, none⟩ = some (.int .i64 (d.df 1)) ∧ w.cell? ⟨ob, o + 7, none⟩ = some (.int .i64 (d.df 2)) ∧ w.cell? ⟨ob, o + 8, none⟩ = some (.int .i64 (d.df 3)) ∧ w.cell? ⟨ob, o + 9, none⟩ = some (.int .i64 (d.df 4)) ∧ w.cell? ⟨ob, o + 10, none⟩ = some (.int .i64 (d.df 5)) ∧
  w.cell? ⟨ob, o + 11, none⟩ = some (.int .i64 d.wd) ∧ w.cell? ⟨ob, o + 12, none⟩ = some (.int .i64 d.ws)
theorem DvsAt.el {w : World} {A : Option Addr} {l : List DV} (h : DvsAt w A l) {i : Nat} {x : DV} (hx : l[i]? = some x) : ∃ ob oo, A = some ⟨ob, oo, none⟩ ∧ PDat w ob (oo + i * 13) x.d := by
  obtain ⟨ob, oo, e, hc⟩ := Row.el (f := dvc) dvc_len (by omega) h.1 hx
  exact ⟨ob, oo, e, hc 0 _ rfl, hc 1 _ rfl, hc 2 _ rfl, hc 3 _ rfl, hc 4 _ rfl, hc 5 _ rfl, hc 6 _ rfl, hc 7 _ rfl, hc 8 _ rfl, hc 9 _ rfl, hc 10 _ rfl, hc 11 _ rfl, hc 12 _ rfl⟩
def devOk (x : DV) (i : Nat) (n : Int) : Bool := decide (-1 ≤ x.d.par ∧ x.d.par < i) && railsB x.rl n && deepB x.d && decide (0 ≤ x.d.ws ∧ x.d.ws ≤ 4 ∧ 0 ≤ x.d.wd ∧ x.d.wd ≤ 3)
def devsB (l : List DV) (n : Int) : Bool := (List.range l.length).all fun i => (l[i]?.map fun x => devOk x i n).getD true
def devsTo (l : List DV) (n : Int) (k : Nat) : Prop := ∀ i x, i < k → l[i]? = some x → devOk x i n = true
def dcheckM (l : List DV) (n : Int) : Int := if 64 < l.length ∨ n < 0 ∨ 64 < n then 1 else if devsB l n = true then 0 else 1
theorem devsTo_succ {l : List DV} {n : Int} {k : Nat} {x : DV} (h : devsTo l n k) (hx : l[k]? = some x) (hk : devOk x k n = true) : devsTo l n (k + 1) := fun i y hi hy => by
  by_cases e : i = k
  · subst e
    rw [hx] at hy
    injection hy with hy
    subst hy
    exact hk
  · exact h i y (by omega) hy
theorem devsB_yes {l : List DV} {n : Int} {k : Nat} (h : devsTo l n k) (hk : l.length ≤ k) : devsB l n = true := List.all_eq_true.2 fun i hi => by
  have hl := List.mem_range.1 hi
  rw [List.getElem?_eq_getElem hl]
  exact h i _ (by omega) (List.getElem?_eq_getElem hl)
theorem devsB_no {l : List DV} {n : Int} {k : Nat} {x : DV} (hx : l[k]? = some x) (hk : devOk x k n = false) : devsB l n = false := by
  cases e : devsB l n with
  | false => rfl
  | true =>
    have := List.all_eq_true.1 e k (List.mem_range.2 (List.getElem?_eq_some_iff.1 hx).1)
    rw [hx] at this
    simp [hk] at this
def DChkRel (w : World) (l : List DV) (n : Int) (m : Nat) (i : Value) (wr : World) : Prop := ∃ k : Nat, k ≤ l.length ∧ i = .int .i64 k ∧ devsTo l n k ∧ Fr [] w wr ∧ m = l.length - k
set_option maxHeartbeats 4000000 in
set_option maxRecDepth 100000 in
theorem check27_any (A : Option Addr) (cp : Nat) (l : List DV) (n : Int) (w : World) (hr : DvsAt w A l) (hn : ∀ x ∈ l, ∀ k, (x.rl k).length ≤ 4096) (hl : l.length ≤ maxLen) :
    Calls Try.prog 56 #[.slice A l.length cp, .int .i64 n] w fun e w' => e = .returned (.int .i64 (dcheckM l n)) ∧ Fr [] w w' := by
  unfold maxLen at hl
  have HR := hide hr
  have HN := hide hn
  clear hr hn
  by_cases hb1 : 64 < l.length
  · have hb' : (64 : Int) < (l.length : Int) := by omega
    have HM : Hid (dcheckM l n = 1) := hide (by simp [dcheckM, hb1])
    go_enter Try.func56, Try.ntmps56
    go_wp2
    go_ret
    exact ⟨ret_int HM.out.symm, Fr.refl _ _⟩
  have hb1' : ¬ (64 : Int) < (l.length : Int) := by omega
  by_cases hb2 : n < 0
  · have HM : Hid (dcheckM l n = 1) := hide (by simp [dcheckM, hb2])
    go_enter Try.func56, Try.ntmps56
    go_wp2
    go_ret
    exact ⟨ret_int HM.out.symm, Fr.refl _ _⟩
  by_cases hb3 : 64 < n
  · have HM : Hid (dcheckM l n = 1) := hide (by simp [dcheckM, hb3])
    go_enter Try.func56, Try.ntmps56
    go_wp2
    go_ret
    exact ⟨ret_int HM.out.symm, Fr.refl _ _⟩
  have HM : Hid (dcheckM l n = if devsB l n = true then 0 else 1) := hide (by simp [dcheckM, hb1, hb2, hb3])
  go_enter Try.func56, Try.ntmps56
  go_wp2
  go_loopg [20] l.length (fun m i wr => DChkRel w l n m i wr)
  case atStart => exact ⟨0, by omega, rfl, fun i x hi => by omega, Fr.refl _ _, rfl⟩
  case round =>
    obtain ⟨k, hk, rfl, hall, hfr, hmm⟩ := hrel
    have HMM := hide hmm
    have HALL := hide hall
    clear hmm hall
    by_cases hlt : k < l.length
    · obtain ⟨x, hx⟩ : ∃ x, l[k]? = some x := ⟨_, List.getElem?_eq_getElem hlt⟩
      obtain ⟨ob, oo, rfl, c0, c1, c2, c3, c4, c5, c6, c7, c8, c9, c10, c11, c12⟩ := (HR.out.fr0 hfr).el hx
      have HRA := hide (((HR.out.fr0 hfr).2 x (List.mem_of_getElem? hx)).fr0 ((Fr.refl [] wr).alloc (.cells x.d.cells 46)))
      have HNX := hide (HN.out x (List.mem_of_getElem? hx))
      have HNO : Hid (devOk x k n = false → dcheckM l n = 1) := hide (fun h => by rw [HM.out, devsB_no hx h]; rfl)
      have HST := hide (fun h => devsTo_succ HALL.out hx h)
      have hkl : (k : Int) < (l.length : Int) := by omega
      clear hx HALL
      obtain ⟨A0, q0, e0, -⟩ := HRA.out 0 (by omega)
      obtain ⟨A1, q1, e1, -⟩ := HRA.out 1 (by omega)
      obtain ⟨A2, q2, e2, -⟩ := HRA.out 2 (by omega)
      obtain ⟨A3, q3, e3, -⟩ := HRA.out 3 (by omega)
      have HC : Hid (x.d.cells = #[.int .i64 x.d.par, .slice A0 (x.rl 0).length q0, .slice A1 (x.rl 1).length q1, .slice A2 (x.rl 2).length q2, .slice A3 (x.rl 3).length q3, .int .i64 (x.d.df 0), .int .i64 (x.d.df 1), .int .i64 (x.d.df 2), .int .i64 (x.d.df 3), .int .i64 (x.d.df 4), .int .i64 (x.d.df 5), .int .i64 x.d.wd, .int .i64 x.d.ws]) := hide (by simp only [PD.cells, e0, e1, e2, e3])
      rw [e0] at c1
      rw [e1] at c2
      rw [e2] at c3
      rw [e3] at c4
      clear e0 e1 e2 e3
      go_upto_region 6 with (fail)
      clear c0 c1 c2 c3 c4 c5 c6 c7 c8 c9 c10 c11 c12
      rw [← HC.out]
      clear HC
      have hp := PD13.new wr 46 x.d
      have hfa : Fr [] wr (wr.alloc (.cells x.d.cells 46)) := (Fr.refl _ _).alloc _
      have hf0a := hfr.call hfa
      generalize wr.alloc (.cells x.d.cells 46) = wa at hp hfa hf0a HRA ⊢
      generalize wr.heap.size = g at hp ⊢
      have HP := hide hp
      obtain ⟨c0, c1, c2, c3, c4, c5, c6, c7, c8, c9, c10, c11, c12⟩ := hp
      by_cases p1 : x.d.par < -1
      · have HF := hide (HNO.out (by simp [devOk]; intro h; omega))
        go_wp2
        go_ret
        exact ⟨ret_int HF.out.symm, hf0a⟩
      by_cases p2 : (k : Int) ≤ x.d.par
      · have HF := hide (HNO.out (by simp [devOk]; intro h; omega))
        go_wp2
        go_ret
        exact ⟨ret_int HF.out.symm, hf0a⟩
      have HPAR : Hid (decide (-1 ≤ x.d.par ∧ x.d.par < (k : Int)) = true) := hide (decide_eq_true ⟨by omega, by omega⟩)
      go_wp2_with fail
      refine (validRails_any x.d x.rl n wa HRA.out HNX.out).mono ?_
      rintro e w3 ⟨rfl, hf3⟩
      have hf03 := hf0a.call hf3
      have HP3 := hide (HP.out.fr0 hf3)
      clear c0 c1 c2 c3 c4 c5 c6 c7 c8 c9 c10 c11 c12 p1 p2
      obtain ⟨c0, c1, c2, c3, c4, c5, c6, c7, c8, c9, c10, c11, c12⟩ := HP3.out
      cases hrb : railsB x.rl n with
      | false =>
        have HF := hide (HNO.out (by simp [devOk, hrb]))
        go_wp2
        go_ret
        exact ⟨ret_int HF.out.symm, hf03⟩
      | true =>
        go_wp2_with fail
        refine (validDeepest_any x.d w3).mono ?_
        rintro e w4 ⟨rfl, hf4⟩
        have hf04 := hf03.call hf4
        have HP4 := hide (HP3.out.fr0 hf4)
        clear c0 c1 c2 c3 c4 c5 c6 c7 c8 c9 c10 c11 c12
        obtain ⟨-, -, -, -, -, -, -, -, -, -, -, c11, c12⟩ := HP4.out
        cases hdb : deepB x.d with
        | false =>
          have HF := hide (HNO.out (by simp [devOk, hdb]))
          go_wp2
          go_ret
          exact ⟨ret_int HF.out.symm, hf04⟩
        | true =>
          have HDO : Hid (devOk x k n = decide (0 ≤ x.d.ws ∧ x.d.ws ≤ 4 ∧ 0 ≤ x.d.wd ∧ x.d.wd ≤ 3)) := hide (by unfold devOk; rw [HPAR.out, hrb, hdb]; rfl)
          clear HPAR hrb hdb
          by_cases p1 : x.d.ws < 0
          · have HF := hide (HNO.out (by rw [HDO.out]; exact decide_eq_false (by omega)))
            go_wp2
            go_ret
            exact ⟨ret_int HF.out.symm, hf04⟩
          by_cases p2 : 4 < x.d.ws
          · have HF := hide (HNO.out (by rw [HDO.out]; exact decide_eq_false (by omega)))
            go_wp2
            go_ret
            exact ⟨ret_int HF.out.symm, hf04⟩
          by_cases p3 : x.d.wd < 0
          · have HF := hide (HNO.out (by rw [HDO.out]; exact decide_eq_false (by omega)))
            go_wp2
            go_ret
            exact ⟨ret_int HF.out.symm, hf04⟩
          by_cases p4 : 3 < x.d.wd
          · have HF := hide (HNO.out (by rw [HDO.out]; exact decide_eq_false (by omega)))
            go_wp2
            go_ret
            exact ⟨ret_int HF.out.symm, hf04⟩
          have HOK := hide (HST.out (by rw [HDO.out]; exact decide_eq_true (by omega)))
          go_wp2
          go_roundg (l.length - (k + 1))
          case measure => rw [HMM.out]; omega
          case rel => exact ⟨k + 1, by omega, by go_num, HOK.out, hf04, rfl⟩
    · have hkl : ¬ (k : Int) < (l.length : Int) := by omega
      have HF := hide (devsB_yes HALL.out (by omega))
      rw [HF.out] at HM
      go_wp2
      go_ret
      exact ⟨ret_int (by rw [HM.out]; rfl), hfr⟩
end Go.Proofs.Ytdocdgghphhdpaa

