/- Walks: the reference's Check. -/
import Derived.Test.YtmkbahmjickoiaaDevR2
namespace Go.Proofs.Ytmkbahmjickoiaa
open Go.RowKit

set_option maxHeartbeats 4000000 in
set_option maxRecDepth 100000 in
theorem rcheck27_any (A : Option Addr) (cp : Nat) (l : List DV) (n : Int) (w : World) (hr : DvsAt w A l) (hn : ∀ x ∈ l, ∀ k, (x.rl k).length ≤ 4096) (hl : l.length ≤ maxLen) :
    Calls Try.prog 13 #[.slice A l.length cp, .int .i64 n] w fun e w' => e = .returned (.int .i64 (checkM l n)) ∧ Fr [] w w' := by
  unfold maxLen at hl
  have HR := hide hr
  have HN := hide hn
  clear hr hn
  by_cases hb1 : 64 < l.length
  · have hb' : (64 : Int) < (l.length : Int) := by omega
    have HM : Hid (checkM l n = 1) := hide (by simp [checkM, hb1])
    go_enter Try.func13, Try.ntmps13
    go_wp2
    go_ret
    exact ⟨ret_int HM.out.symm, Fr.refl _ _⟩
  have hb1' : ¬ (64 : Int) < (l.length : Int) := by omega
  by_cases hb2 : n < 0
  · have HM : Hid (checkM l n = 1) := hide (by simp [checkM, hb2])
    go_enter Try.func13, Try.ntmps13
    go_wp2
    go_ret
    exact ⟨ret_int HM.out.symm, Fr.refl _ _⟩
  by_cases hb3 : 64 < n
  · have HM : Hid (checkM l n = 1) := hide (by simp [checkM, hb3])
    go_enter Try.func13, Try.ntmps13
    go_wp2
    go_ret
    exact ⟨ret_int HM.out.symm, Fr.refl _ _⟩
  have HM : Hid (checkM l n = if devsB l n = true then 0 else 1) := hide (by simp [checkM, hb1, hb2, hb3])
  go_enter Try.func13, Try.ntmps13
  go_wp2
  go_loopg [5] l.length (fun m i wr => ChkRel w l n m i wr)
  case atStart => exact ⟨0, by omega, rfl, fun i x hi => by omega, Fr.refl _ _, rfl⟩
  case round =>
    obtain ⟨k, hk, rfl, hall, hfr, hmm⟩ := hrel
    have HMM := hide hmm
    have HALL := hide hall
    clear hmm hall
    by_cases hlt : k < l.length
    · obtain ⟨x, hx⟩ : ∃ x, l[k]? = some x := ⟨_, List.getElem?_eq_getElem hlt⟩
      obtain ⟨ob, oo, rfl, c0, c1, c2, c3, c4, c5, c6, c7, c8, c9, c10, c11, c12⟩ := (HR.out.fr0 hfr).el hx
      have HRA := hide ((HR.out.fr0 hfr).2 x (List.mem_of_getElem? hx))
      have HNX := hide (HN.out x (List.mem_of_getElem? hx))
      have HNO : Hid (devOk x k n = false → checkM l n = 1) := hide (fun h => by rw [HM.out, devsB_no hx h]; rfl)
      have HST := hide (fun h => devsTo_succ HALL.out hx h)
      have hkl : (k : Int) < (l.length : Int) := by omega
      clear hx HALL
      go_wp2_with fail
      clear c0 c1 c2 c3 c4 c5 c6 c7 c8 c9 c10 c11 c12
      refine (rvalid_any x k n wr HRA.out HNX.out).mono ?_
      rintro e w3 ⟨rfl, hf3⟩
      have hf03 := hfr.call hf3
      cases hok : devOk x k n with
      | false =>
        have HF := hide (HNO.out hok)
        go_wp2
        go_ret
        exact ⟨ret_int HF.out.symm, hf03⟩
      | true =>
        have HOK := hide (HST.out hok)
        go_wp2
        go_roundg (l.length - (k + 1))
        case measure => rw [HMM.out]; omega
        case rel => exact ⟨k + 1, by omega, by go_num, HOK.out, hf03, rfl⟩
    · have hkl : ¬ (k : Int) < (l.length : Int) := by omega
      have HF := hide (devsB_yes HALL.out (by omega))
      rw [HF.out] at HM
      go_wp2
      go_ret
      exact ⟨ret_int (by rw [HM.out]; rfl), hfr⟩
end Go.Proofs.Ytmkbahmjickoiaa
