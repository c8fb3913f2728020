/- Walks: the law's needs. -/
import Derived.Test.YtbnfdpemfmeldaaRpmL0
import Derived.Test.YtbnfdpemfmeldaaRpmP5
namespace Go.Proofs.Ytbnfdpemfmeldaa
open Go.RowKit

def NdRel (w : World) (d : ID) (k : Int) (m : Nat) (i : Value) (wr : World) : Prop := ∃ j : Nat, j ≤ d.sup.length ∧ i = .int .i64 (j : Int) ∧ (∀ x ∈ d.sup.take j, x ≠ k) ∧ w = wr ∧ m = d.sup.length - j
set_option maxHeartbeats 4000000 in
theorem needs28_any (A : Option Addr) (cp : Nat) (out : List ID) (w : World) (h : IdsAt w A out) (ho : out.length ≤ 8) {i : Nat} {d : ID} (hd : out[i]? = some d) (k : Int) (hs : d.sup.length ≤ 20) :
    Calls Try.prog 24 #[.slice A out.length cp, .int .i64 (i : Int), .int .i64 k] w fun e w' => e = .returned (.bool (decide (d.par = k ∨ k ∈ d.sup))) ∧ w = w' := by
  obtain ⟨ob, oo, A', cp', rfl, -, d0, d1, d2, hrs⟩ := h.el hd
  have hil := (List.getElem?_eq_some_iff.1 hd).1
  have hii : (i : Int) < (out.length : Int) := by omega
  have HRS := hide hrs
  clear h hd hrs
  by_cases hp : d.par = k
  · have hb : (d.par == k) = true := by simpa using hp
    have HE : Hid (decide (d.par = k ∨ k ∈ d.sup) = true) := hide (decide_eq_true (.inl hp))
    rw [HE.out]
    clear hp
    go_enter Try.func24, Try.ntmps24
    go_wp2
    go_ret
    exact ⟨rfl, rfl⟩
  · have hb : (d.par == k) = false := by simpa using hp
    have HP := hide hp
    obtain ⟨bb, hbb⟩ : ∃ bb, bb = decide (d.par = k ∨ k ∈ d.sup) := ⟨_, rfl⟩
    rw [← hbb]
    have HBB := hide hbb
    clear hp hbb
    go_enter Try.func24, Try.ntmps24
    go_wp2
    go_loopg [7] d.sup.length (fun m i wr => NdRel w d k m i wr)
    case atStart => exact ⟨0, by omega, rfl, (fun x hx => by cases hx), rfl, rfl⟩
    case round =>
      obtain ⟨j, hj, rfl, hall, rfl, hmm⟩ := hrel
      have HM := hide hmm
      have HALL := hide hall
      clear hmm hall
      by_cases hjl : j < d.sup.length
      · obtain ⟨y, hy⟩ : ∃ y, d.sup[j]? = some y := ⟨_, List.getElem?_eq_getElem hjl⟩
        obtain ⟨o3, o4, rfl, cy⟩ := HRS.out.int hy
        have hji : (j : Int) < (d.sup.length : Int) := by omega
        have HY := hide hy
        clear hy
        by_cases hyk : y = k
        · have hbk : (y == k) = true := by simpa using hyk
          have HE : Hid (bb = true) := hide (by rw [HBB.out]; exact decide_eq_true (.inr (by rw [← hyk]; exact List.mem_of_getElem? HY.out)))
          clear hyk
          go_wp2
          go_ret
          exact ⟨by rw [HE.out]; rfl, rfl⟩
        · have hbk : (y == k) = false := by simpa using hyk
          have HYK := hide hyk
          clear hyk
          go_wp2
          go_roundg (d.sup.length - (j + 1))
          case measure => rw [HM.out]; omega
          case rel => exact ⟨j + 1, by omega, by go_num, fun x hx => by
            rw [take_succ_some HY.out] at hx
            rcases List.mem_append.1 hx with hx | hx
            · exact HALL.out x hx
            · rw [List.mem_singleton.1 hx]; exact HYK.out, rfl, rfl⟩
      · rw [List.take_of_length_le (by omega)] at HALL
        have hji : ¬ (j : Int) < (d.sup.length : Int) := by omega
        have HE : Hid (bb = false) := hide (by rw [HBB.out]; exact decide_eq_false (fun h => h.elim HP.out (fun hm => HALL.out k hm rfl)))
        go_wp2
        go_ret
        exact ⟨by rw [HE.out]; rfl, rfl⟩
end Go.Proofs.Ytbnfdpemfmeldaa
