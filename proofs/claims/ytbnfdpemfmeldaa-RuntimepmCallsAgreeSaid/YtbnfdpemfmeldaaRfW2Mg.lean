/- Walks over the reference of chapter 28: Active, Usage, NextExpiry. -/
import Derived.Test.YtbnfdpemfmeldaaRfW1Mg
import Derived.Test.YtbnfdpemfmeldaaRpmW3Mg
namespace Go.Proofs.Ytbnfdpemfmeldaa
open Go.RowKit

section
variable {w : World} {P : RL} {l : List ID} {s : RS}
set_option maxHeartbeats 1000000 in
theorem ractive28_any (h : RgIn w P l s) (d : Int) : Calls Try.prog 29 #[.pointer (some ⟨P.b, 0, none⟩), .int .i64 d] w fun e w' => e = .returned (.bool (decide (0 ≤ d ∧ d < l.length) && s.act d.toNat)) ∧ w = w' := by
  have c0 : w.cell? ⟨P.b, 0, none⟩ = some (.slice P.Ad l.length P.cd) := h.blk.cell 0
  have c2 : w.cell? ⟨P.b, 2, none⟩ = some (.slice (some ⟨P.ga, 0, none⟩) l.length l.length) := h.blk.cell 2
  by_cases hin : 0 ≤ d ∧ d < l.length
  · obtain ⟨n, rfl⟩ := Int.eq_ofNat_of_zero_le hin.1
    have hn : n < l.length := by omega
    have hni : (n : Int) < (l.length : Int) := by omega
    have d0 : w.cell? ⟨P.ga, n, none⟩ = some (.bool (s.act n)) := h.on.cell hn
    have HD : Hid ((decide (0 ≤ (n : Int) ∧ (n : Int) < l.length) && s.act (n : Int).toNat) = s.act n) := hide (by rw [decide_eq_true hin]; simp)
    rw [HD.out]
    clear HD h hin
    generalize s.act n = a at d0 ⊢
    go_enter Try.func29, Try.ntmps29
    go_wp2
    go_ret
    exact ⟨rfl, rfl⟩
  · have HD : Hid ((decide (0 ≤ d ∧ d < l.length) && s.act d.toNat) = false) := hide (by rw [decide_eq_false hin]; rfl)
    rw [HD.out]
    clear HD h
    have hway : d < 0 ∨ (0 ≤ d ∧ ¬ d < l.length) := by omega
    clear hin
    rcases hway with h1 | ⟨h1, h2⟩
    · have h1' : ¬ 0 ≤ d := by omega
      go_enter Try.func29, Try.ntmps29
      go_wp2
      go_ret
      exact ⟨rfl, rfl⟩
    · go_enter Try.func29, Try.ntmps29
      go_wp2
      go_ret
      exact ⟨rfl, rfl⟩
set_option maxHeartbeats 1000000 in
theorem rusage28_any (h : RgIn w P l s) (d : Int) : Calls Try.prog 30 #[.pointer (some ⟨P.b, 0, none⟩), .int .i64 d] w fun e w' => e = .returned (.int .i64 (if 0 ≤ d ∧ d < l.length then (s.use d.toNat : Int) else 0)) ∧ w = w' := by
  have c0 : w.cell? ⟨P.b, 0, none⟩ = some (.slice P.Ad l.length P.cd) := h.blk.cell 0
  have c3 : w.cell? ⟨P.b, 3, none⟩ = some (.slice (some ⟨P.gu, 0, none⟩) l.length l.length) := h.blk.cell 3
  by_cases hin : 0 ≤ d ∧ d < l.length
  · rw [if_pos hin]
    obtain ⟨n, rfl⟩ := Int.eq_ofNat_of_zero_le hin.1
    have hn : n < l.length := by omega
    have hni : (n : Int) < (l.length : Int) := by omega
    have hng : ¬ (l.length : Int) ≤ (n : Int) := by omega
    have hn0 : ¬ (n : Int) < 0 := by omega
    have d0 : w.cell? ⟨P.gu, n, none⟩ = some (.int .i64 (s.use n : Int)) := h.us.cell hn
    rw [Int.toNat_natCast]
    clear h hin
    generalize s.use n = a at d0 ⊢
    go_enter Try.func30, Try.ntmps30
    go_wp2
    go_ret
    exact ⟨rfl, rfl⟩
  · rw [if_neg hin]
    have hway : d < 0 ∨ (¬ d < 0 ∧ (l.length : Int) ≤ d) := by omega
    clear hin h
    rcases hway with h1 | ⟨h1, h2⟩
    all_goals
      go_enter Try.func30, Try.ntmps30
      go_wp2
      go_ret
      exact ⟨rfl, rfl⟩
set_option maxHeartbeats 1000000 in
theorem rnext28_any (h : RgIn w P l s) (hB : basicM (l.length : Int) (idLinks 0 l) = 0) (hM : MOk (newRM l)) (hs : SOk (newRM l) s) : Calls Try.prog 28 #[.pointer (some ⟨P.b, 0, none⟩)] w fun e w' => e = .returned (.tuple #[uv (nextC (newRM l) s).1, .bool (nextC (newRM l) s).2]) ∧ Fr [] w w' := by
  have hf := rfirst28_any h hB hM hs
  have HX := hide (fun i => exy_wrap hM hs i)
  have HH := hide h
  cases hfs : fstM (newRM l) s with
  | none =>
    have HN : Hid (nextC (newRM l) s = (0, false)) := hide (by unfold nextC; rw [hfs])
    rw [hfs, show optI28 none = -1 from rfl] at hf
    clear hfs h hM hs HX
    rw [HN.out]
    go_enter Try.func28, Try.ntmps28
    go_wp2_with fail
    refine hf.mono ?_
    rintro e w1 ⟨rfl, q, rfl⟩
    go_wp2
    go_ret2
    exact ⟨rfl, (Fr.refl _ _).drewN _⟩
  | some d =>
    have HN : Hid (nextC (newRM l) s = (exy (newRM l) s d, true)) := hide (by unfold nextC; rw [hfs])
    rw [hfs, show optI28 (some d) = (d : Int) from rfl] at hf
    have hd : d < l.length := (fstTo_some hfs).1
    have hdi : (d : Int) < (l.length : Int) := by omega
    have hd0 : ¬ (d : Int) < 0 := by omega
    have w1 := HX.out d
    have c0 : w.cell? ⟨P.b, 0, none⟩ = some (.slice P.Ad l.length P.cd) := h.blk.cell 0
    have c4 : w.cell? ⟨P.b, 4, none⟩ = some (.slice (some ⟨P.gs, 0, none⟩) l.length l.length) := h.blk.cell 4
    have s1 : w.cell? ⟨P.gs, d, none⟩ = some (.int .u64 (s.sin d : Int)) := h.sn.cell hd
    obtain ⟨ob, oo, eA, x1⟩ := h.delay hd
    rw [eA] at c0
    clear hfs h hM hs HX eA
    rw [HN.out]
    generalize (newRM l).dl d = dd at w1 x1
    generalize exy (newRM l) s d = xx at w1
    go_enter Try.func28, Try.ntmps28
    go_wp2_with fail
    refine hf.mono ?_
    rintro e w1 ⟨rfl, q, rfl⟩
    go_wp2
    go_quiet (fail)
    go_wp2
    go_ret2
    exact ⟨rfl, ((Fr.refl _ _).drewN _).drewN _⟩
end
end Go.Proofs.Ytbnfdpemfmeldaa

