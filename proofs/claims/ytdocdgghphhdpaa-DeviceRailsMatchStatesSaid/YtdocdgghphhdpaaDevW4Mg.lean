/- Walks: device.difference. -/
import Derived.Test.YtdocdgghphhdpaaDevW3Mg
import Derived.Test.YtdocdgghphhdpaaApp
namespace Go.Proofs.Ytdocdgghphhdpaa
open Go.RowKit

theorem int_info27 : (Try.prog.info? 3).map (fun i => (i.zero, i.size, i.bytes)) = some (some (.int .i64 0), 1, 8) := by kernel_rfl
def diffM (l u : List Int) : List Int := l.filter fun x => !decide (x ∈ u)
theorem diffM_snoc (l u : List Int) (x : Int) : diffM (l ++ [x]) u = if x ∈ u then diffM l u else diffM l u ++ [x] := by
  unfold diffM
  rw [List.filter_append]
  by_cases h : x ∈ u <;> simp [h]
def DfRel (w : World) (l u : List Int) (m : Nat) (v i : Value) (wr : World) : Prop :=
  ∃ k : Nat, k ≤ l.length ∧ i = .int .i64 k ∧ wr.ownsRow w.heap.size 3 1 v (diffM (l.take k) u).length ((diffM (l.take k) u).map (Value.int .i64)) ∧ Fr [] w wr ∧ m = l.length - k
set_option maxHeartbeats 2000000 in
theorem difference_any (A B : Option Addr) (cp cq : Nat) (l u : List Int) (w : World) (hr : Row w A (l.map (Value.int .i64))) (hb : Row w B (u.map (Value.int .i64))) (hn : l.length ≤ 4096) (hu : u.length ≤ 4096) (ha : Asc u) :
    Calls Try.prog 98 #[.slice A l.length cp, .slice B u.length cq] w (OwnRet w 3 1 (diffM l u).length ((diffM l u).map (Value.int .i64))) := by
  obtain ⟨i0, hi0, hz0, hz1, hz2⟩ := info_parts int_info27
  have HI := hide (And.intro hi0 (And.intro hz0 (And.intro hz1 hz2)))
  have HR := hide hr
  have HB := hide hb
  have HA := hide ha
  clear hr hb ha hi0 hz0 hz1 hz2
  go_enter Try.func98, Try.ntmps98
  go_wp2
  go_loopg [5, 12] l.length (fun m v i wr => DfRel w l u m v i wr)
  case atStart => exact ⟨0, by omega, rfl, own_nil _ _ _ _, Fr.refl _ _, rfl⟩
  case round =>
    obtain ⟨k, hk, rfl, hown, hfr, hmm⟩ := hrel
    have HM := hide hmm
    clear hmm
    obtain ⟨A5, c5, rfl, -, -, -⟩ := own_slice hown
    have HOWN := hide hown
    clear hown
    by_cases hlt : k < l.length
    · obtain ⟨x, hx⟩ : ∃ x, l[k]? = some x := ⟨_, List.getElem?_eq_getElem hlt⟩
      obtain ⟨ob, oo, e, c1⟩ := (HR.out.fr0 hfr).int hx
      subst e
      have hkl : (k : Int) < (l.length : Int) := by omega
      have hts : l.take (k + 1) = l.take k ++ [x] := by rw [List.take_add_one, hx]; rfl
      have HSN := hide (diffM_snoc (l.take k) u x)
      rw [← hts] at HSN
      have hll : (diffM (l.take k) u).length ≤ 4096 := by
        have h1 := List.length_filter_le (fun x => !decide (x ∈ u)) (l.take k)
        have h2 : (l.take k).length ≤ l.length := by rw [List.length_take]; omega
        unfold diffM
        omega
      clear hx hts
      generalize diffM (l.take k) u = F at HOWN HSN hll ⊢
      go_wp2_with fail
      refine (bsearch_any B cq u x wr (HB.out.fr0 hfr) hu HA.out).mono ?_
      rintro e w1 ⟨bi, rfl, hf1⟩
      by_cases hin : x ∈ u
      · rw [decide_eq_true hin]
        rw [if_pos hin] at HSN
        clear hin
        go_wp2
        go_roundg (l.length - (k + 1))
        case measure => rw [HM.out]; omega
        case rel => exact ⟨k + 1, by omega, by go_num, by rw [HSN.out]; exact own_fr HOWN.out hf1 (fun _ _ => by simp), hfr.call hf1, rfl⟩
      · rw [decide_eq_false hin]
        rw [if_neg hin] at HSN
        have HO1 := hide (own_fr HOWN.out hf1 (fun _ _ => by simp))
        have hf01 := hfr.call hf1
        have hsz : w.heap.size ≤ w1.heap.size + 1 := by have := hf01.size; omega
        clear hin
        go_wp2_with (first
          | (at_builtin
             refine wpList_append_row _ rfl (.tmp 24) (.tmp 26) _ rfl w.heap.size 3 i0 (.int .i64 0) 1 8 Try.underlying34 HI.out.1 HI.out.2.1 HI.out.2.2.1 HI.out.2.2.2 rfl (by omega) (.slice A5 F.length c5) F.length (F.map (Value.int .i64)) rfl
               (own_fr HO1.out ((Fr.refl [] _).alloc _) (fun _ _ => by simp)) (some ⟨w1.heap.size, 0, none⟩) 1 1 [.int .i64 x] rfl rfl (row_one w1 _ _) (by intro u hu; simp at hu; subst hu; rfl) (by simp only [maxLen]; omega) (by omega) (by simpa using hsz) ?_
             intro v1 w9 hown9 hg9 hat9))
        have hf9 : Fr [] w w9 := (hf01.alloc _).grown hg9 (fun y hy => .inr (own_block HO1.out hy).1)
        go_roundg (l.length - (k + 1))
        case measure => rw [HM.out]; omega
        case rel =>
          refine ⟨k + 1, by omega, by go_num, ?_, hf9, rfl⟩
          rw [HSN.out, List.length_append, List.length_singleton, List.map_append]
          exact hown9
    · have hkl : ¬ (k : Int) < (l.length : Int) := by omega
      rw [List.take_of_length_le (by omega)] at HOWN ⊢
      go_wp2
      go_ret
      exact ⟨_, rfl, HOWN.out, hfr⟩
end Go.Proofs.Ytdocdgghphhdpaa

