/- help.Mod, walked. -/
import Derived.Test.YtdocdgghphhdpaaBase
import Derived.Test.YtdocdgghphhdpaaProg
import Derived.Test.YtdocdgghphhdpaaMgDeviceTree3
namespace Go.Proofs.Ytdocdgghphhdpaa
open Go.RowKit

def umod (v : Int) (n : Nat) : Nat := ((IntKind.u64.wrap v).toNat) % n
theorem umod_lt (v : Int) {n : Nat} (h : 0 < n) : umod v n < n := Nat.mod_lt _ h
theorem wrap_u64 (v : Int) : IntKind.u64.wrap v = v % 18446744073709551616 := by simp [IntKind.wrap, IntKind.signed, IntKind.bits]

set_option maxHeartbeats 400000 in
theorem mod_any (v : Int) (n : Nat) (w : World) (h0 : 0 < n) (h1 : n ≤ 4096) :
    Calls Try.prog 24 #[.int .i64 v, .int .i64 n] w fun e w' => e = .returned (.int .i64 (umod v n)) ∧ w = w' := by
  have hb : (1 : Int) ≤ (n : Int) := by omega
  have hb2 : (n : Int) ≤ 4096 := by omega
  clear h0 h1
  go_enter Try.func24, Try.ntmps24
  go_wp2
  go_ret
  refine ⟨ret_int ?_, rfl⟩
  have hw : 0 ≤ IntKind.u64.wrap v := by rw [wrap_u64]; omega
  have e : (IntKind.u64.wrap v).tmod (n : Int) = ((umod v n : Nat) : Int) := by
    obtain ⟨m, hm⟩ := Int.eq_ofNat_of_zero_le hw
    unfold umod
    rw [hm, Int.toNat_natCast]
    exact (Int.ofNat_tmod m n).symm
  rw [e]
  have := umod_lt v (n := n) (by omega)
  exact IntWalk.wrap64_in _ ⟨by omega, by omega⟩
end Go.Proofs.Ytdocdgghphhdpaa

/- Walks: the law's ascending. -/
namespace Go.Proofs.Ytdocdgghphhdpaa
open Go.RowKit

def hitB (l : List Int) (n v : Nat) : Bool := l.any fun x => umod x n == v
/-- The numbers below v that an element of l is modulo n. -/
def ascI (l : List Int) (n v : Nat) : List Int := ((List.range v).filter (hitB l n)).map fun (u : Nat) => (u : Int)
def ascL (l : List Int) (n : Nat) : List Int := (ascI l n n).take 3
theorem ascI_succ (l : List Int) (n v : Nat) : ascI l n (v + 1) = if hitB l n v = true then ascI l n v ++ [(v : Int)] else ascI l n v := by
  unfold ascI
  rw [List.range_succ, List.filter_append]
  cases h : hitB l n v <;> simp [h]
theorem ascI_split (l : List Int) (n v d : Nat) : ∃ r, ascI l n (v + d) = ascI l n v ++ r := by
  induction d with
  | zero => exact ⟨[], by simp⟩
  | succ d ih =>
    obtain ⟨r, hr⟩ := ih
    rw [← Nat.add_assoc, ascI_succ, hr]
    split
    · exact ⟨r ++ [((v + d : Nat) : Int)], by simp⟩
    · exact ⟨r, rfl⟩
theorem ascL_of {l : List Int} {n v : Nat} (hv : v ≤ n) (h3 : (ascI l n v).length ≤ 3) (h : v = n ∨ (ascI l n v).length = 3) : ascL l n = ascI l n v := by
  unfold ascL
  rcases h with rfl | h
  · exact List.take_of_length_le h3
  · obtain ⟨r, hr⟩ := ascI_split l n v (n - v)
    rw [show v + (n - v) = n by omega] at hr
    rw [hr, ← h, List.take_left']
    rfl
theorem ascL_len (l : List Int) (n : Nat) : (ascL l n).length ≤ 3 := by
  unfold ascL
  rw [List.length_take]
  omega
theorem ascL_asc (l : List Int) (n : Nat) : Asc (ascL l n) := by
  unfold Asc ascL ascI
  apply List.Pairwise.sublist (List.take_sublist _ _)
  rw [List.pairwise_map]
  apply List.Pairwise.filter
  exact List.pairwise_lt_range.imp fun h => by omega
theorem ascL_mem {l : List Int} {n : Nat} {v : Int} (h : v ∈ ascL l n) : 0 ≤ v ∧ v < n := by
  have h1 := List.mem_of_mem_take h
  unfold ascI at h1
  obtain ⟨u, hu, rfl⟩ := List.mem_map.1 h1
  have := List.mem_range.1 (List.mem_filter.1 hu).1
  omega
theorem ascB_asc {l : List Int} (h : Asc l) : ascB l = true := decide_eq_true fun i hi => by
  unfold Asc at h
  rw [List.pairwise_iff_getElem] at h
  rw [List.getD_eq_getElem?_getD, List.getD_eq_getElem?_getD, List.getElem?_eq_getElem (by omega), List.getElem?_eq_getElem (by omega)]
  exact h i (i + 1) (by omega) (by omega) (by omega)
def LaRel (w : World) (l : List Int) (n : Nat) (m : Nat) (v i : Value) (wr : World) : Prop :=
  ∃ k : Nat, k ≤ n ∧ i = .int .i64 k ∧ (ascI l n k).length ≤ 3 ∧ wr.ownsRow w.heap.size 3 1 v (ascI l n k).length ((ascI l n k).map (Value.int .i64)) ∧ Fr [] w wr ∧ m = n - k
def LbRel (w : World) (l : List Int) (n v : Nat) (v0 : Value) (m : Nat) (v5 i : Value) (wr : World) : Prop :=
  ∃ t : Nat, t ≤ l.length ∧ i = .int .i64 t ∧ v5 = v0 ∧ (∀ (j : Nat) (y : Int), j < t → l[j]? = some y → umod y n ≠ v) ∧ w = wr ∧ m = l.length - t
set_option maxHeartbeats 4000000 in
theorem lasc_any (A : Option Addr) (cp : Nat) (l : List Int) (n : Nat) (w : World) (hr : Row w A (l.map (Value.int .i64))) (hl : l.length ≤ maxLen) (hn : n ≤ 4096) :
    Calls Try.prog 57 #[.slice A l.length cp, .int .i64 (n : Int)] w (OwnRet w 3 1 (ascL l n).length ((ascL l n).map (Value.int .i64))) := by
  unfold maxLen at hl
  obtain ⟨i0, hi0, hz0, hz1, hz2⟩ := info_parts int_info27
  have HI := hide (And.intro hi0 (And.intro hz0 (And.intro hz1 hz2)))
  have HR := hide hr
  clear hr hi0 hz0 hz1 hz2
  go_enter Try.func57, Try.ntmps57
  go_wp2
  go_loopg [5, 6] n (fun m v i wr => LaRel w l n m v i wr)
  case atStart => exact ⟨0, by omega, rfl, by simp [ascI], own_nil _ _ _ _, Fr.refl _ _, rfl⟩
  case round =>
    obtain ⟨k, hk, rfl, h3, hown, hfr, hmm⟩ := hrel
    have HM := hide hmm
    clear hmm
    obtain ⟨A5, c5, rfl, -, -, -⟩ := own_slice hown
    have HOWN := hide hown
    have HL := hide (fun h => ascL_of hk h3 h)
    have HSU := hide (ascI_succ l n k)
    clear hown
    by_cases hlt : k < n
    · by_cases hlt3 : (ascI l n k).length < 3
      · have hkn : (k : Int) < (n : Int) := by omega
        have hl3 : ((ascI l n k).length : Int) < 3 := by omega
        generalize ascI l n k = F at HOWN HL HSU hlt3 hl3 h3 ⊢
        obtain ⟨wq, hwq⟩ : ∃ wq, wq = wr := ⟨_, rfl⟩
        subst hwq
        go_wp2
        go_loopg [5, 7] l.length (fun m v5 i wr => LbRel wq l n k (.slice A5 F.length c5) m v5 i wr)
        case atStart => exact ⟨0, by omega, rfl, rfl, fun j y hj => by omega, rfl, rfl⟩
        case round =>
          obtain ⟨t, ht, rfl, rfl, hall, rfl, hmm⟩ := hrel
          have HM2 := hide hmm
          have HALL := hide hall
          clear hmm hall
          by_cases hlt2 : t < l.length
          · obtain ⟨y, hy⟩ : ∃ y, l[t]? = some y := ⟨_, List.getElem?_eq_getElem hlt2⟩
            obtain ⟨ob, oo, rfl, c2⟩ := (HR.out.fr0 hfr).int hy
            have htl : (t : Int) < (l.length : Int) := by omega
            have HY := hide hy
            clear hy
            go_wp2_with fail
            refine (mod_any y n wq (by omega) hn).mono ?_
            rintro e w3 ⟨rfl, rfl⟩
            by_cases hm : umod y n = k
            · have hbm : ((umod y n : Int) == (k : Int)) = true := by simp [hm]
              have HHIT : Hid (hitB l n k = true) := hide (List.any_eq_true.2 ⟨y, List.mem_of_getElem? HY.out, by simp [hm]⟩)
              rw [if_pos HHIT.out] at HSU
              have hsz : w.heap.size ≤ wq.heap.size + 1 := by have := hfr.size; omega
              clear hm
              go_wp2_with (first
                | (at_builtin
                   refine wpList_append_row _ rfl (.tmp 32) (.tmp 34) _ rfl w.heap.size 3 i0 (.int .i64 0) 1 8 Try.underlying34 HI.out.1 HI.out.2.1 HI.out.2.2.1 HI.out.2.2.2 rfl (by omega) (.slice A5 F.length c5) F.length (F.map (Value.int .i64)) rfl
                     (own_fr HOWN.out ((Fr.refl [] _).alloc _) (fun _ _ => by simp)) (some ⟨wq.heap.size, 0, none⟩) 1 1 [.int .i64 (k : Int)] rfl rfl (row_one wq _ _) (by intro u hu; simp at hu; subst hu; rfl) (by simp only [maxLen]; omega) (by omega) (by simpa using hsz) ?_
                   intro v1 w9 hown9 hg9 hat9))
              have hf9 : Fr [] w w9 := (hfr.alloc _).grown hg9 (fun y hy => .inr (own_block HOWN.out hy).1)
              go_roundg (n - (k + 1))
              case measure => rw [HM.out]; omega
              case rel =>
                refine ⟨k + 1, by omega, by go_num, ?_, ?_, hf9, rfl⟩
                · rw [HSU.out, List.length_append, List.length_singleton]
                  omega
                · rw [HSU.out, List.length_append, List.length_singleton, List.map_append]
                  exact hown9
            · have hbm : ((umod y n : Int) == (k : Int)) = false := by simp; omega
              go_wp2
              go_roundg (l.length - (t + 1))
              case measure => rw [HM2.out]; omega
              case rel =>
                refine ⟨t + 1, by omega, by go_num, rfl, fun j z hj hz => ?_, rfl, rfl⟩
                by_cases e : j = t
                · subst e
                  rw [HY.out] at hz
                  injection hz with hz
                  subst hz
                  exact hm
                · exact HALL.out j z (by omega) hz
          · have htl : ¬ (t : Int) < (l.length : Int) := by omega
            have HHIT : Hid (¬ hitB l n k = true) := hide (fun h => by
              obtain ⟨y, hy, he⟩ := List.any_eq_true.1 h
              obtain ⟨j, hj⟩ := List.getElem?_of_mem hy
              exact HALL.out j y (by have := (List.getElem?_eq_some_iff.1 hj).1; omega) hj (by simpa using he))
            rw [if_neg HHIT.out] at HSU
            go_wp2
            go_roundg (n - (k + 1))
            case measure => rw [HM.out]; omega
            case rel => exact ⟨k + 1, by omega, by go_num, by rw [HSU.out]; omega, by rw [HSU.out]; exact HOWN.out, hfr, rfl⟩
      · have hkn : (k : Int) < (n : Int) := by omega
        have hl3 : ¬ ((ascI l n k).length : Int) < 3 := by omega
        have HE := hide (HL.out (.inr (by omega)))
        go_wp2
        go_ret
        exact ⟨_, rfl, by rw [HE.out]; exact HOWN.out, hfr⟩
    · have hkn : ¬ (k : Int) < (n : Int) := by omega
      have hd1 : decide ((k : Int) < (n : Int)) = false := decide_eq_false hkn
      have hd2 : decide (k < n) = false := decide_eq_false hlt
      have HE := hide (HL.out (.inl (by omega)))
      go_wp2
      go_ret
      exact ⟨_, rfl, by rw [HE.out]; exact HOWN.out, hfr⟩
end Go.Proofs.Ytdocdgghphhdpaa

