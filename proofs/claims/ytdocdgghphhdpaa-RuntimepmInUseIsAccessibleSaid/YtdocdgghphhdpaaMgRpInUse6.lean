/- Walks: device.Check. -/
import Derived.Test.YtdocdgghphhdpaaMgRpInUse5
import Derived.Deep.Cut
import Derived.Deep.CutBlock
import Derived.Test.YtdocdgghphhdpaaBase
import Derived.Test.YtdocdgghphhdpaaProg
import Derived.Test.YtdocdgghphhdpaaMgRpInUse3
namespace Go.Proofs.Ytdocdgghphhdpaa
open Go.RowKit

/-- A power device with its lists of rails. -/
structure DV where
  d : PD
  rl : Nat → List Int
def dvc (x : DV) : List Value := x.d.cells.toList
theorem dvc_len (x : DV) : (dvc x).length = 13 := rfl
def dvcs (l : List DV) : List Value := l.flatMap dvc
def DvsAt (w : World) (A : Option Addr) (l : List DV) : Prop := Row w A (dvcs l) ∧ ∀ x ∈ l, RailsAt w x.d x.rl
theorem DvsAt.fr0 {w w' : World} {A : Option Addr} {l : List DV} (h : DvsAt w A l) (k : Fr [] w w') : DvsAt w' A l := ⟨h.1.fr0 k, fun x hx => (h.2 x hx).fr0 k⟩
abbrev PDat (w : World) (ob o : Nat) (d : PD) : Prop :=
  w.cell? ⟨ob, o, none⟩ = some (.int .i64 d.par) ∧ w.cell? ⟨ob, o + 1, none⟩ = some (d.rf 0) ∧ w.cell? ⟨ob, o + 2, none⟩ = some (d.rf 1) ∧ w.cell? ⟨ob, o + 3, none⟩ = some (d.rf 2) ∧ w.cell? ⟨ob, o + 4, none⟩ = some (d.rf 3) ∧
  w.cell? ⟨ob, o + 5, none⟩ = some (.int .i64 (d.df 0)) ∧ w.cell? ⟨ob, o + 6, none⟩ = some (.int .i64 (d.df 1)) ∧ w.cell? ⟨ob, o + 7, none⟩ = some (.int .i64 (d.df 2)) ∧ w.cell? ⟨ob, o + 8, none⟩ = some (.int .i64 (d.df 3)) ∧ w.cell? ⟨ob, o + 9, none⟩ = some (.int .i64 (d.df 4)) ∧ w.cell? ⟨ob, o + 10, none⟩ = some (.int .i64 (d.df 5)) ∧
  w.cell? ⟨ob, o + 11, none⟩ = some (.int .i64 d.wd) ∧ w.cell? ⟨ob, o + 12, none⟩ = some (.int .i64 d.ws)
theorem DvsAt.el {w : World} {A : Option Addr} {l : List DV} (h : DvsAt w A l) {i : Nat} {x : DV} (hx : l[i]? = some x) : ∃ ob oo, A = some ⟨ob, oo, none⟩ ∧ PDat w ob (oo + i * 13) x.d := by
  obtain ⟨ob, oo, e, hc⟩ := Row.el (f := dvc) dvc_len (by omega) h.1 hx
  exact ⟨ob, oo, e, hc 0 _ rfl, hc 1 _ rfl, hc 2 _ rfl, hc 3 _ rfl, hc 4 _ rfl, hc 5 _ rfl, hc 6 _ rfl, hc 7 _ rfl, hc 8 _ rfl, hc 9 _ rfl, hc 10 _ rfl, hc 11 _ rfl, hc 12 _ rfl⟩
def devOk (x : DV) (i : Nat) (n : Int) : Bool := decide (-1 ≤ x.d.par ∧ x.d.par < i) && railsB x.rl n && deepB x.d && decide (0 ≤ x.d.ws ∧ x.d.ws ≤ 4 ∧ 0 ≤ x.d.wd ∧ x.d.wd ≤ 3)
def devsB (l : List DV) (n : Int) : Bool := (List.range l.length).all fun i => (l[i]?.map fun x => devOk x i n).getD true
def devsTo (l : List DV) (n : Int) (k : Nat) : Prop := ∀ i x, i < k → l[i]? = some x → devOk x i n = true
def dcheckM (l : List DV) (n : Int) : Int := if 64 < l.length ∨ n < 0 ∨ 64 < n then 1 else if devsB l n = true then 0 else 1
theorem devsTo_succ {l : List DV} {n : Int} {k : Nat} {x : DV} (h : devsTo l n k) (hx : l[k]? = some x) (hk : devOk x k n = true) : devsTo l n (k + 1) := fun i y hi hy => by
  by_cases e : i = k
  · subst e
    rw [hx] at hy
    injection hy with hy
    subst hy
    exact hk
  · exact h i y (by omega) hy
theorem devsB_yes {l : List DV} {n : Int} {k : Nat} (h : devsTo l n k) (hk : l.length ≤ k) : devsB l n = true := List.all_eq_true.2 fun i hi => by
  have hl := List.mem_range.1 hi
  rw [List.getElem?_eq_getElem hl]
  exact h i _ (by omega) (List.getElem?_eq_getElem hl)
theorem devsB_no {l : List DV} {n : Int} {k : Nat} {x : DV} (hx : l[k]? = some x) (hk : devOk x k n = false) : devsB l n = false := by
  cases e : devsB l n with
  | false => rfl
  | true =>
    have := List.all_eq_true.1 e k (List.mem_range.2 (List.getElem?_eq_some_iff.1 hx).1)
    rw [hx] at this
    simp [hk] at this
def DChkRel (w : World) (l : List DV) (n : Int) (m : Nat) (i : Value) (wr : World) : Prop := ∃ k : Nat, k ≤ l.length ∧ i = .int .i64 k ∧ devsTo l n k ∧ Fr [] w wr ∧ m = l.length - k
set_option maxHeartbeats 4000000 in
set_option maxRecDepth 100000 in
theorem check27_any (A : Option Addr) (cp : Nat) (l : List DV) (n : Int) (w : World) (hr : DvsAt w A l) (hn : ∀ x ∈ l, ∀ k, (x.rl k).length ≤ 4096) (hl : l.length ≤ maxLen) :
    Calls Try.prog 56 #[.slice A l.length cp, .int .i64 n] w fun e w' => e = .returned (.int .i64 (dcheckM l n)) ∧ Fr [] w w' := by
  unfold maxLen at hl
  have HR := hide hr
  have HN := hide hn
  clear hr hn
  by_cases hb1 : 64 < l.length
  · have hb' : (64 : Int) < (l.length : Int) := by omega
    have HM : Hid (dcheckM l n = 1) := hide (by simp [dcheckM, hb1])
    go_enter Try.func56, Try.ntmps56
    go_wp2
    go_ret
    exact ⟨ret_int HM.out.symm, Fr.refl _ _⟩
  have hb1' : ¬ (64 : Int) < (l.length : Int) := by omega
  by_cases hb2 : n < 0
  · have HM : Hid (dcheckM l n = 1) := hide (by simp [dcheckM, hb2])
    go_enter Try.func56, Try.ntmps56
    go_wp2
    go_ret
    exact ⟨ret_int HM.out.symm, Fr.refl _ _⟩
  by_cases hb3 : 64 < n
  · have HM : Hid (dcheckM l n = 1) := hide (by simp [dcheckM, hb3])
    go_enter Try.func56, Try.ntmps56
    go_wp2
    go_ret
    exact ⟨ret_int HM.out.symm, Fr.refl _ _⟩
  have HM : Hid (dcheckM l n = if devsB l n = true then 0 else 1) := hide (by simp [dcheckM, hb1, hb2, hb3])
  go_enter Try.func56, Try.ntmps56
  go_wp2
  go_loopg [20] l.length (fun m i wr => DChkRel w l n m i wr)
  case atStart => exact ⟨0, by omega, rfl, fun i x hi => by omega, Fr.refl _ _, rfl⟩
  case round =>
    obtain ⟨k, hk, rfl, hall, hfr, hmm⟩ := hrel
    have HMM := hide hmm
    have HALL := hide hall
    clear hmm hall
    by_cases hlt : k < l.length
    · obtain ⟨x, hx⟩ : ∃ x, l[k]? = some x := ⟨_, List.getElem?_eq_getElem hlt⟩
      obtain ⟨ob, oo, rfl, c0, c1, c2, c3, c4, c5, c6, c7, c8, c9, c10, c11, c12⟩ := (HR.out.fr0 hfr).el hx
      have HRA := hide (((HR.out.fr0 hfr).2 x (List.mem_of_getElem? hx)).fr0 ((Fr.refl [] wr).alloc (.cells x.d.cells 46)))
      have HNX := hide (HN.out x (List.mem_of_getElem? hx))
      have HNO : Hid (devOk x k n = false → dcheckM l n = 1) := hide (fun h => by rw [HM.out, devsB_no hx h]; rfl)
      have HST := hide (fun h => devsTo_succ HALL.out hx h)
      have hkl : (k : Int) < (l.length : Int) := by omega
      clear hx HALL
      obtain ⟨A0, q0, e0, -⟩ := HRA.out 0 (by omega)
      obtain ⟨A1, q1, e1, -⟩ := HRA.out 1 (by omega)
      obtain ⟨A2, q2, e2, -⟩ := HRA.out 2 (by omega)
      obtain ⟨A3, q3, e3, -⟩ := HRA.out 3 (by omega)
      have HC : Hid (x.d.cells = #[.int .i64 x.d.par, .slice A0 (x.rl 0).length q0, .slice A1 (x.rl 1).length q1, .slice A2 (x.rl 2).length q2, .slice A3 (x.rl 3).length q3, .int .i64 (x.d.df 0), .int .i64 (x.d.df 1), .int .i64 (x.d.df 2), .int .i64 (x.d.df 3), .int .i64 (x.d.df 4), .int .i64 (x.d.df 5), .int .i64 x.d.wd, .int .i64 x.d.ws]) := hide (by simp only [PD.cells, e0, e1, e2, e3])
      rw [e0] at c1
      rw [e1] at c2
      rw [e2] at c3
      rw [e3] at c4
      clear e0 e1 e2 e3
      go_upto_region 6 with (fail)
      clear c0 c1 c2 c3 c4 c5 c6 c7 c8 c9 c10 c11 c12
      rw [← HC.out]
      clear HC
      have hp := PD13.new wr 46 x.d
      have hfa : Fr [] wr (wr.alloc (.cells x.d.cells 46)) := (Fr.refl _ _).alloc _
      have hf0a := hfr.call hfa
      generalize wr.alloc (.cells x.d.cells 46) = wa at hp hfa hf0a HRA ⊢
      generalize wr.heap.size = g at hp ⊢
      have HP := hide hp
      obtain ⟨c0, c1, c2, c3, c4, c5, c6, c7, c8, c9, c10, c11, c12⟩ := hp
      by_cases p1 : x.d.par < -1
      · have HF := hide (HNO.out (by simp [devOk]; intro h; omega))
        go_wp2
        go_ret
        exact ⟨ret_int HF.out.symm, hf0a⟩
      by_cases p2 : (k : Int) ≤ x.d.par
      · have HF := hide (HNO.out (by simp [devOk]; intro h; omega))
        go_wp2
        go_ret
        exact ⟨ret_int HF.out.symm, hf0a⟩
      have HPAR : Hid (decide (-1 ≤ x.d.par ∧ x.d.par < (k : Int)) = true) := hide (decide_eq_true ⟨by omega, by omega⟩)
      go_wp2_with fail
      refine (validRails_any x.d x.rl n wa HRA.out HNX.out).mono ?_
      rintro e w3 ⟨rfl, hf3⟩
      have hf03 := hf0a.call hf3
      have HP3 := hide (HP.out.fr0 hf3)
      clear c0 c1 c2 c3 c4 c5 c6 c7 c8 c9 c10 c11 c12 p1 p2
      obtain ⟨c0, c1, c2, c3, c4, c5, c6, c7, c8, c9, c10, c11, c12⟩ := HP3.out
      cases hrb : railsB x.rl n with
      | false =>
        have HF := hide (HNO.out (by simp [devOk, hrb]))
        go_wp2
        go_ret
        exact ⟨ret_int HF.out.symm, hf03⟩
      | true =>
        go_wp2_with fail
        refine (validDeepest_any x.d w3).mono ?_
        rintro e w4 ⟨rfl, hf4⟩
        have hf04 := hf03.call hf4
        have HP4 := hide (HP3.out.fr0 hf4)
        clear c0 c1 c2 c3 c4 c5 c6 c7 c8 c9 c10 c11 c12
        obtain ⟨-, -, -, -, -, -, -, -, -, -, -, c11, c12⟩ := HP4.out
        cases hdb : deepB x.d with
        | false =>
          have HF := hide (HNO.out (by simp [devOk, hdb]))
          go_wp2
          go_ret
          exact ⟨ret_int HF.out.symm, hf04⟩
        | true =>
          have HDO : Hid (devOk x k n = decide (0 ≤ x.d.ws ∧ x.d.ws ≤ 4 ∧ 0 ≤ x.d.wd ∧ x.d.wd ≤ 3)) := hide (by unfold devOk; rw [HPAR.out, hrb, hdb]; rfl)
          clear HPAR hrb hdb
          by_cases p1 : x.d.ws < 0
          · have HF := hide (HNO.out (by rw [HDO.out]; exact decide_eq_false (by omega)))
            go_wp2
            go_ret
            exact ⟨ret_int HF.out.symm, hf04⟩
          by_cases p2 : 4 < x.d.ws
          · have HF := hide (HNO.out (by rw [HDO.out]; exact decide_eq_false (by omega)))
            go_wp2
            go_ret
            exact ⟨ret_int HF.out.symm, hf04⟩
          by_cases p3 : x.d.wd < 0
          · have HF := hide (HNO.out (by rw [HDO.out]; exact decide_eq_false (by omega)))
            go_wp2
            go_ret
            exact ⟨ret_int HF.out.symm, hf04⟩
          by_cases p4 : 3 < x.d.wd
          · have HF := hide (HNO.out (by rw [HDO.out]; exact decide_eq_false (by omega)))
            go_wp2
            go_ret
            exact ⟨ret_int HF.out.symm, hf04⟩
          have HOK := hide (HST.out (by rw [HDO.out]; exact decide_eq_true (by omega)))
          go_wp2
          go_roundg (l.length - (k + 1))
          case measure => rw [HMM.out]; omega
          case rel => exact ⟨k + 1, by omega, by go_num, HOK.out, hf04, rfl⟩
    · have hkl : ¬ (k : Int) < (l.length : Int) := by omega
      have HF := hide (devsB_yes HALL.out (by omega))
      rw [HF.out] at HM
      go_wp2
      go_ret
      exact ⟨ret_int (by rw [HM.out]; rfl), hfr⟩
end Go.Proofs.Ytdocdgghphhdpaa

/- help.Mod, walked. -/
namespace Go.Proofs.Ytdocdgghphhdpaa
open Go.RowKit

def umod (v : Int) (n : Nat) : Nat := ((IntKind.u64.wrap v).toNat) % n
theorem umod_lt (v : Int) {n : Nat} (h : 0 < n) : umod v n < n := Nat.mod_lt _ h
theorem wrap_u64 (v : Int) : IntKind.u64.wrap v = v % 18446744073709551616 := by simp [IntKind.wrap, IntKind.signed, IntKind.bits]

set_option maxHeartbeats 400000 in
theorem mod_any (v : Int) (n : Nat) (w : World) (h0 : 0 < n) (h1 : n ≤ 4096) :
    Calls Try.prog 24 #[.int .i64 v, .int .i64 n] w fun e w' => e = .returned (.int .i64 (umod v n)) ∧ w = w' := by
  have hb : (1 : Int) ≤ (n : Int) := by omega
  have hb2 : (n : Int) ≤ 4096 := by omega
  clear h0 h1
  go_enter Try.func24, Try.ntmps24
  go_wp2
  go_ret
  refine ⟨ret_int ?_, rfl⟩
  have hw : 0 ≤ IntKind.u64.wrap v := by rw [wrap_u64]; omega
  have e : (IntKind.u64.wrap v).tmod (n : Int) = ((umod v n : Nat) : Int) := by
    obtain ⟨m, hm⟩ := Int.eq_ofNat_of_zero_le hw
    unfold umod
    rw [hm, Int.toNat_natCast]
    exact (Int.ofNat_tmod m n).symm
  rw [e]
  have := umod_lt v (n := n) (by omega)
  exact IntWalk.wrap64_in _ ⟨by omega, by omega⟩
end Go.Proofs.Ytdocdgghphhdpaa

/- Walks: the law's ascending. -/
namespace Go.Proofs.Ytdocdgghphhdpaa
open Go.RowKit

def hitB (l : List Int) (n v : Nat) : Bool := l.any fun x => umod x n == v
/-- The numbers below v that an element of l is modulo n. -/
def ascI (l : List Int) (n v : Nat) : List Int := ((List.range v).filter (hitB l n)).map fun (u : Nat) => (u : Int)
def ascL (l : List Int) (n : Nat) : List Int := (ascI l n n).take 3
theorem ascI_succ (l : List Int) (n v : Nat) : ascI l n (v + 1) = if hitB l n v = true then ascI l n v ++ [(v : Int)] else ascI l n v := by
  unfold ascI
  rw [List.range_succ, List.filter_append]
  cases h : hitB l n v <;> simp [h]
theorem ascI_split (l : List Int) (n v d : Nat) : ∃ r, ascI l n (v + d) = ascI l n v ++ r := by
  induction d with
  | zero => exact ⟨[], by simp⟩
  | succ d ih =>
    obtain ⟨r, hr⟩ := ih
    rw [← Nat.add_assoc, ascI_succ, hr]
    split
    · exact ⟨r ++ [((v + d : Nat) : Int)], by simp⟩
    · exact ⟨r, rfl⟩
theorem ascL_of {l : List Int} {n v : Nat} (hv : v ≤ n) (h3 : (ascI l n v).length ≤ 3) (h : v = n ∨ (ascI l n v).length = 3) : ascL l n = ascI l n v := by
  unfold ascL
  rcases h with rfl | h
  · exact List.take_of_length_le h3
  · obtain ⟨r, hr⟩ := ascI_split l n v (n - v)
    rw [show v + (n - v) = n by omega] at hr
    rw [hr, ← h, List.take_left']
    rfl
theorem ascL_len (l : List Int) (n : Nat) : (ascL l n).length ≤ 3 := by
  unfold ascL
  rw [List.length_take]
  omega
theorem ascL_asc (l : List Int) (n : Nat) : Asc (ascL l n) := by
  unfold Asc ascL ascI
  apply List.Pairwise.sublist (List.take_sublist _ _)
  rw [List.pairwise_map]
  apply List.Pairwise.filter
  exact List.pairwise_lt_range.imp fun h => by omega
theorem ascL_mem {l : List Int} {n : Nat} {v : Int} (h : v ∈ ascL l n) : 0 ≤ v ∧ v < n := by
  have h1 := List.mem_of_mem_take h
  unfold ascI at h1
  obtain ⟨u, hu, rfl⟩ := List.mem_map.1 h1
  have := List.mem_range.1 (List.mem_filter.1 hu).1
  omega
theorem ascB_asc {l : List Int} (h : Asc l) : ascB l = true := decide_eq_true fun i hi => by
  unfold Asc at h
  rw [List.pairwise_iff_getElem] at h
  rw [List.getD_eq_getElem?_getD, List.getD_eq_getElem?_getD, List.getElem?_eq_getElem (by omega), List.getElem?_eq_getElem (by omega)]
  exact h i (i + 1) (by omega) (by omega) (by omega)
def LaRel (w : World) (l : List Int) (n : Nat) (m : Nat) (v i : Value) (wr : World) : Prop :=
  ∃ k : Nat, k ≤ n ∧ i = .int .i64 k ∧ (ascI l n k).length ≤ 3 ∧ wr.ownsRow w.heap.size 3 1 v (ascI l n k).length ((ascI l n k).map (Value.int .i64)) ∧ Fr [] w wr ∧ m = n - k
def LbRel (w : World) (l : List Int) (n v : Nat) (v0 : Value) (m : Nat) (v5 i : Value) (wr : World) : Prop :=
  ∃ t : Nat, t ≤ l.length ∧ i = .int .i64 t ∧ v5 = v0 ∧ (∀ (j : Nat) (y : Int), j < t → l[j]? = some y → umod y n ≠ v) ∧ w = wr ∧ m = l.length - t
set_option maxHeartbeats 4000000 in
theorem lasc_any (A : Option Addr) (cp : Nat) (l : List Int) (n : Nat) (w : World) (hr : Row w A (l.map (Value.int .i64))) (hl : l.length ≤ maxLen) (hn : n ≤ 4096) :
    Calls Try.prog 57 #[.slice A l.length cp, .int .i64 (n : Int)] w (OwnRet w 3 1 (ascL l n).length ((ascL l n).map (Value.int .i64))) := by
  unfold maxLen at hl
  obtain ⟨i0, hi0, hz0, hz1, hz2⟩ := info_parts int_info27
  have HI := hide (And.intro hi0 (And.intro hz0 (And.intro hz1 hz2)))
  have HR := hide hr
  clear hr hi0 hz0 hz1 hz2
  go_enter Try.func57, Try.ntmps57
  go_wp2
  go_loopg [5, 6] n (fun m v i wr => LaRel w l n m v i wr)
  case atStart => exact ⟨0, by omega, rfl, by simp [ascI], own_nil _ _ _ _, Fr.refl _ _, rfl⟩
  case round =>
    obtain ⟨k, hk, rfl, h3, hown, hfr, hmm⟩ := hrel
    have HM := hide hmm
    clear hmm
    obtain ⟨A5, c5, rfl, -, -, -⟩ := own_slice hown
    have HOWN := hide hown
    have HL := hide (fun h => ascL_of hk h3 h)
    have HSU := hide (ascI_succ l n k)
    clear hown
    by_cases hlt : k < n
    · by_cases hlt3 : (ascI l n k).length < 3
      · have hkn : (k : Int) < (n : Int) := by omega
        have hl3 : ((ascI l n k).length : Int) < 3 := by omega
        generalize ascI l n k = F at HOWN HL HSU hlt3 hl3 h3 ⊢
        obtain ⟨wq, hwq⟩ : ∃ wq, wq = wr := ⟨_, rfl⟩
        subst hwq
        go_wp2
        go_loopg [5, 7] l.length (fun m v5 i wr => LbRel wq l n k (.slice A5 F.length c5) m v5 i wr)
        case atStart => exact ⟨0, by omega, rfl, rfl, fun j y hj => by omega, rfl, rfl⟩
        case round =>
          obtain ⟨t, ht, rfl, rfl, hall, rfl, hmm⟩ := hrel
          have HM2 := hide hmm
          have HALL := hide hall
          clear hmm hall
          by_cases hlt2 : t < l.length
          · obtain ⟨y, hy⟩ : ∃ y, l[t]? = some y := ⟨_, List.getElem?_eq_getElem hlt2⟩
            obtain ⟨ob, oo, rfl, c2⟩ := (HR.out.fr0 hfr).int hy
            have htl : (t : Int) < (l.length : Int) := by omega
            have HY := hide hy
            clear hy
            go_wp2_with fail
            refine (mod_any y n wq (by omega) hn).mono ?_
            rintro e w3 ⟨rfl, rfl⟩
            by_cases hm : umod y n = k
            · have hbm : ((umod y n : Int) == (k : Int)) = true := by simp [hm]
              have HHIT : Hid (hitB l n k = true) := hide (List.any_eq_true.2 ⟨y, List.mem_of_getElem? HY.out, by simp [hm]⟩)
              rw [if_pos HHIT.out] at HSU
              have hsz : w.heap.size ≤ wq.heap.size + 1 := by have := hfr.size; omega
              clear hm
              go_wp2_with (first
                | (at_builtin
                   refine wpList_append_row _ rfl (.tmp 32) (.tmp 34) _ rfl w.heap.size 3 i0 (.int .i64 0) 1 8 Try.underlying34 HI.out.1 HI.out.2.1 HI.out.2.2.1 HI.out.2.2.2 rfl (by omega) (.slice A5 F.length c5) F.length (F.map (Value.int .i64)) rfl
                     (own_fr HOWN.out ((Fr.refl [] _).alloc _) (fun _ _ => by simp)) (some ⟨wq.heap.size, 0, none⟩) 1 1 [.int .i64 (k : Int)] rfl rfl (row_one wq _ _) (by intro u hu; simp at hu; subst hu; rfl) (by simp only [maxLen]; omega) (by omega) (by simpa using hsz) ?_
                   intro v1 w9 hown9 hg9 hat9))
              have hf9 : Fr [] w w9 := (hfr.alloc _).grown hg9 (fun y hy => .inr (own_block HOWN.out hy).1)
              go_roundg (n - (k + 1))
              case measure => rw [HM.out]; omega
              case rel =>
                refine ⟨k + 1, by omega, by go_num, ?_, ?_, hf9, rfl⟩
                · rw [HSU.out, List.length_append, List.length_singleton]
                  omega
                · rw [HSU.out, List.length_append, List.length_singleton, List.map_append]
                  exact hown9
            · have hbm : ((umod y n : Int) == (k : Int)) = false := by simp; omega
              go_wp2
              go_roundg (l.length - (t + 1))
              case measure => rw [HM2.out]; omega
              case rel =>
                refine ⟨t + 1, by omega, by go_num, rfl, fun j z hj hz => ?_, rfl, rfl⟩
                by_cases e : j = t
                · subst e
                  rw [HY.out] at hz
                  injection hz with hz
                  subst hz
                  exact hm
                · exact HALL.out j z (by omega) hz
          · have htl : ¬ (t : Int) < (l.length : Int) := by omega
            have HHIT : Hid (¬ hitB l n k = true) := hide (fun h => by
              obtain ⟨y, hy, he⟩ := List.any_eq_true.1 h
              obtain ⟨j, hj⟩ := List.getElem?_of_mem hy
              exact HALL.out j y (by have := (List.getElem?_eq_some_iff.1 hj).1; omega) hj (by simpa using he))
            rw [if_neg HHIT.out] at HSU
            go_wp2
            go_roundg (n - (k + 1))
            case measure => rw [HM.out]; omega
            case rel => exact ⟨k + 1, by omega, by go_num, by rw [HSU.out]; omega, by rw [HSU.out]; exact HOWN.out, hfr, rfl⟩
      · have hkn : (k : Int) < (n : Int) := by omega
        have hl3 : ¬ ((ascI l n k).length : Int) < 3 := by omega
        have HE := hide (HL.out (.inr (by omega)))
        go_wp2
        go_ret
        exact ⟨_, rfl, by rw [HE.out]; exact HOWN.out, hfr⟩
    · have hkn : ¬ (k : Int) < (n : Int) := by omega
      have hd1 : decide ((k : Int) < (n : Int)) = false := decide_eq_false hkn
      have hd2 : decide (k < n) = false := decide_eq_false hlt
      have HE := hide (HL.out (.inl (by omega)))
      go_wp2
      go_ret
      exact ⟨_, rfl, by rw [HE.out]; exact HOWN.out, hfr⟩
end Go.Proofs.Ytdocdgghphhdpaa

